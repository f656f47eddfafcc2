/-
  PROVED HERE: the contract of the document's Sorted: copies of the rows in their order.
-/
import Derived.Test.YtcmpjdnbjhkhdaaDoorGRxOwn
import Derived.Test.YtcmpjdnbjhkhdaaDoorBefore
import Derived.Test.YtcmpjdnbjhkhdaaDoorCopy
import Derived.Test.YtcmpjdnbjhkhdaaDoorBlockCut
import Derived.Test.YtcmpjdnbjhkhdaaDoorLexS
namespace Go.Proofs.YtcmpjdnbjhkhdaaDoor
set_option linter.unusedSimpArgs false
set_option linter.unusedVariables false
open Go.RowKit

def RefSortedTo (w : World) (l : List Row) (e : Ending) (w' : World) : Prop :=
  ∃ v xs, e = .returned v ∧ OwnR w.heap.size w' v xs ∧ AllR w.heap.size w' xs ∧ (xs.map (·.row)).Perm l ∧ SortedR (xs.map (·.row)) ∧ Later w w'
set_option maxRecDepth 100000 in
set_option maxHeartbeats 8000000 in
theorem ref_sorted (l : List Row) (v : Value) (w : World) (hv : IsRows w v l) (hl : l.length * 32 ≤ 140737488355328) (hr : ∀ x ∈ l, x.vals.length * 32 ≤ 140737488355328) :
    Calls Tryd.prog 73 #[v] w (RefSortedTo w l) := by
  have HLL := hid hl; have HR := hid hr
  obtain ⟨p, c, rfl, hlc, hcm, hnil, he⟩ := hv
  have HE := hid he
  clear hl hr he hnil hlc hcm
  go_enter Tryd.func73, Tryd.ntmps73
  go_wp2_with fail
  obtain ⟨R1, hR1⟩ : ∃ RR_ : (Nat → Value) → World → Prop, RR_ = (fun us wx => ∃ (i : Nat) (xs : List RX) (a : Option Addr) (c : Nat), us 4 = .int .i64 i ∧ us 3 = .slice a xs.length c ∧ i ≤ l.length ∧ xs.length = i ∧ OwnR w.heap.size wx (.slice a xs.length c) xs ∧ AllR w.heap.size wx xs ∧ (xs.map (·.row)).Perm (l.take i) ∧ SortedR (xs.map (·.row)) ∧ Later w wx) := ⟨_, rfl⟩
  obtain ⟨mu1, hmu1⟩ : ∃ mu : (Nat → Value) → World → Nat, mu = (fun us _ => l.length - (intOf (us 4)).toNat) := ⟨_, rfl⟩
  have HR1 := hid hR1; have Hmu1 := hid hmu1; clear hR1 hmu1
  refine wp_loop_frame' [false, false, false, true, true, true, true, true, true, true, true, true, true, true, true, true, true, true, true, true, true, true, true, true, true, true, true, true, true, true, true, true, true, true, true, true, true, true, true, true, true, true, true, true, true, true, true, true, true, true, true, true, true, true, true, true, true, true, true, true, true, true] R1 _ mu1 HR1.out ?_ ?_
  · exact ⟨0, [], none, 0, rfl, rfl, Nat.zero_le _, rfl, ⟨rfl, .inl ⟨rfl, rfl⟩⟩, fun x hx => (by cases hx), by rw [List.take_zero]; exact List.Perm.refl _, List.Pairwise.nil, Later.refl _⟩
  intro us1 wx hrel
  obtain ⟨i, xs, a, c1, h4, h3, hi, hxl, ho, hd, hp, hs, hL⟩ := hrel
  simp only [frameOf, Nat.reduceAdd, h4, h3]
  have Hh4 := hid h4; clear h4
  have Hh3 := hid h3; clear h3
  have HI := hid hi; have HXL := hid hxl; have HO := hid ho; have HD := hid hd; have HP := hid hp; have HS := hid hs; have HL := hid hL
  clear hi hxl ho hd hp hs hL
  by_cases hlt : i < l.length
  · have HLT := hid hlt
    have HWI : Hid (wrap64 ((i : Int) + 1) = ((i + 1 : Nat) : Int)) := hid (by have := HLL.out; unfold wrap64; omega)
    obtain ⟨b, o, rfl, -, p1, v1, p2, hv1⟩ := HE.out i hlt
    have HRK := hid (HR.out _ (List.getElem_mem hlt))
    have HTK : Hid (l.take (i + 1) = l.take i ++ [l[i]'HLT.out]) := hid (List.take_succ_eq_append_getElem hlt)
    replace p1 := HL.out.cell p1
    replace p2 := HL.out.cell p2
    have HV1 := hid (SliceOf.later hv1 HL.out)
    generalize l[i] = x at p1 p2 HV1 HRK HTK
    obtain ⟨tm, vs⟩ := x
    simp only at p1
    clear hv1
    obtain ⟨av, cv, e1, -⟩ := HV1.out
    subst e1
    simp only at p2
    have HP12 := hid (And.intro p1 p2)
    clear p1 p2
    go_wp2_with fail
    obtain ⟨R2, hR2⟩ : ∃ RR_ : (Nat → Value) → World → Prop, RR_ = (fun us wq => ∃ k : Nat, us 5 = .int .i64 k ∧ k ≤ xs.length ∧ (∀ (h : 0 < k) (hk : k - 1 < xs.length), beforeR ⟨tm, vs⟩ xs[k - 1].row = false) ∧ (∀ j (h : j < xs.length), k ≤ j → beforeR ⟨tm, vs⟩ xs[j].row = true) ∧ Later wx wq) := ⟨_, rfl⟩
    have HR2 := hid hR2; clear hR2
    refine wp_block_frame' [false, false, false, false, false, true, true, false, false, false, false, false, false, false, false, false, false, true, true, true, true, true, true, true, true, true, true, true, true, true, true, true, true] R2 _ HR2.out ?_ ?_
    ·
      obtain ⟨R3, hR3⟩ : ∃ RR_ : (Nat → Value) → World → Prop, RR_ = (fun us wq => ∃ k : Nat, us 5 = .int .i64 k ∧ k ≤ xs.length ∧ (∀ j (h : j < xs.length), k ≤ j → beforeR ⟨tm, vs⟩ xs[j].row = true) ∧ Later wx wq) := ⟨_, rfl⟩
      obtain ⟨mu3, hmu3⟩ : ∃ mu : (Nat → Value) → World → Nat, mu = (fun us _ => (intOf (us 5)).toNat) := ⟨_, rfl⟩
      have HR3 := hid hR3; have Hmu3 := hid hmu3; clear hR3 hmu3
      refine wp_loop_frame' [false, false, false, false, false, true, true, false, false, false, false, false, false, false, false, false, false, true, true, true, true, true, true, true, true, true, true, true, true, true, true, true, true] R3 _ mu3 HR3.out ?_ ?_
      · exact ⟨xs.length, rfl, Nat.le_refl _, fun j h h' => by omega, Later.refl _⟩
      intro us3 wy hrel
      obtain ⟨k, h5, hk, hb, hL⟩ := hrel
      simp only [frameOf, Nat.reduceAdd, h5]
      have Hh5 := hid h5; clear h5
      have HK := hid hk; have HB := hid hb; have HLY := hid hL
      clear hk hb hL
      rcases Nat.eq_zero_or_pos k with hk0 | hk0
      · subst hk0
        go_wp2_with fail
        refine Meet.mk' HR2.out rfl ?_
        exact ⟨0, rfl, Nat.zero_le _, fun h => (by omega), HB.out, HLY.out⟩
      · obtain ⟨m, rfl⟩ : ∃ m, k = m + 1 := ⟨k - 1, by omega⟩
        have hmx : m < xs.length := by have := HK.out; omega
        have HMX := hid hmx
        obtain ⟨g, rfl, hgB, q1, q2, -⟩ := OwnR.cells HO.out hmx
        obtain ⟨ay, cy, hyv⟩ := HD.out.slice (List.getElem_mem hmx)
        have HVY := hid ((owned_vals (HD.out _ (List.getElem_mem hmx))).later HLY.out)
        rw [hyv] at q2 HVY
        have hself : xs[m] = xs[m] := rfl
        generalize hY : xs[m] = X at q1 q2 HVY hself
        obtain ⟨Y, vX⟩ := X
        simp only at q1 q2 HVY
        replace q1 := HLY.out.cell q1
        replace q2 := HLY.out.cell q2
        have p1 := HLY.out.cell HP12.out.1
        have p2 := HLY.out.cell HP12.out.2
        have HV1Y := hid (SliceOf.later HV1.out HLY.out)
        have HYY := hid hY
        obtain ⟨ty, ys⟩ := Y
        simp only at q1 q2 HVY
        have hmb : (m : Int) ≤ 9223372036854775800 := by have := HLL.out; have := HI.out; have := HXL.out; omega
        have hw1 : IntKind.i64.wrap (m : Int) = m := IntWalk.i64_in _ (by omega)
        have hw2 : wrap64 ((m : Int) + 1 - 1) = m := by unfold wrap64; omega
        have HW3 : Hid (wrap64 ((m : Int) + 1 - 1) = m) := hid hw2
        have hil : (i : Int) < (l.length : Int) := by have := HLT.out; omega
        have hml : (m : Int) < (xs.length : Int) := by omega
        clear hY hyv hgB hmb hself
        go_upto_region 7 with (fail)
        refine wp_region_lex (by kernel_rfl) (by kernel_rfl) Later Later.refl Later.trans (kinds [(9, fun v _ => v = .bool (beforeR ⟨tm, vs⟩ ⟨ty, ys⟩))]) (kinds_still (by simp +contextual)) ?_
        simp only [numbered, Nat.reduceAdd]
        refine LexS.out ?_
        iterate 9
          first
          | (refine LexS.skip rfl ?_; simp only [Act.put, List.setIfInBounds_toArray, List.set])
          | (refine LexS.one' rfl rfl ?_
             apply Exists.intro
             refine ⟨fun w hR hF => ?_, ?_⟩
             · have hP := hR
               repeat (first | replace hP := Later.of_drew hP | replace hP := Later.of_drewN hP | replace hP := Later.of_alloc hP)
               have hcs := hR.cells
               have zp1 := hP.cell p1
               have zp2 := hP.cell p2
               have zq1 := hP.cell q1
               have zq2 := hP.cell q2
               clear hR hF hP
               go_simp
               first | done | rfl
             simp only [Act.put, List.setIfInBounds_toArray, List.set])
        refine LexS.anyEq rfl rfl (fun w hR hF => ?_) ?_
        · have hP := hR
          repeat (first | replace hP := Later.of_drew hP | replace hP := Later.of_drewN hP | replace hP := Later.of_alloc hP)
          have hcs := hR.cells
          clear hF hR
          unfold Runs
          go_simp
          unfold Yield
          refine (before_row tm ty vs ys (.slice av vs.length cv) (.slice ay ys.length cy) _ ((SliceOf.later HV1Y.out hP).vals_mono fun _ _ => trivial) ((SliceOf.later HVY.out hP).vals_mono fun _ _ => trivial)).mono ?_
          rintro e w' ⟨rfl, hL⟩
          exact ⟨_, rfl, hL, rfl⟩
        simp only [Act.put, List.setIfInBounds_toArray, List.set]
        iterate 1
          first
          | (refine LexS.skip rfl ?_; simp only [Act.put, List.setIfInBounds_toArray, List.set])
          | (refine LexS.one' rfl rfl ?_
             apply Exists.intro
             refine ⟨fun w hR hF => ?_, ?_⟩
             · have hP := hR
               repeat (first | replace hP := Later.of_drew hP | replace hP := Later.of_drewN hP | replace hP := Later.of_alloc hP)
               have hcs := hR.cells
               clear hR hF hP
               go_simp
               first | done | rfl
             simp only [Act.put, List.setIfInBounds_toArray, List.set])
        refine LexS.nil ?_
        intro w5 hR5 hF9
        clear hF9
        repeat (first | replace hR5 := Later.of_drew hR5 | replace hR5 := Later.of_drewN hR5 | replace hR5 := Later.of_alloc hR5)
        have HL5 := hid (Later.trans _ _ _ HLY.out hR5)
        clear hR5 p1 p2 q1 q2 HLY HVY HV1Y
        cases hbb : beforeR ⟨tm, vs⟩ ⟨ty, ys⟩ with
        | false =>
          have HBB := hid hbb
          clear hbb
          go_wp2_with fail
          refine Meet.mk' HR2.out rfl ?_
          exact ⟨m + 1, rfl, HK.out, fun _ hk => (congrArg (fun z : RX => beforeR ⟨tm, vs⟩ z.row) HYY.out).trans HBB.out, HB.out, HL5.out⟩
        | true =>
          have HBB := hid hbb
          clear hbb
          go_wp2_with fail
          try simp only [HW3.out]
          refine Round.mk' HR3.out Hmu3.out rfl ?_ ?_
          · refine ⟨m, rfl, Nat.le_of_lt HMX.out, fun j h hj => ?_, HL5.out⟩
            by_cases hjm : j = m
            · subst hjm; exact (congrArg (fun z : RX => beforeR ⟨tm, vs⟩ z.row) HYY.out).trans HBB.out
            · exact HB.out j h (by omega)
          · rw [Hh5.out]; simp [intOf, slots]; try omega
    intro us2 wq hrel
    obtain ⟨k, h5, hk, hb1, hb2, hL⟩ := hrel
    simp only [frameOf, Nat.reduceAdd, h5]
    have Hh5 := hid h5; clear h5
    have HK := hid hk; have HB1 := hid hb1; have HB2 := hid hb2; have HLQ := hid hL
    clear hk hb1 hb2 hL
    have p1 := HLQ.out.cell HP12.out.1
    have p2 := HLQ.out.cell HP12.out.2
    have HVQ := hid (SliceOf.later HV1.out HLQ.out)
    go_upto_region 10 with (fail)
    go_wp2_with fail
    refine (copy_row tm vs _ _ (HVQ.out.vals_mono fun _ _ => trivial) HRK.out).mono ?_
    rintro e w3 ⟨v3, rfl, hov, hL3⟩
    obtain ⟨a3, c3, rfl⟩ := ownsRow_slice hov
    have hLA := Later.trans _ _ _ HLQ.out hL3
    have HX3 := hid (own_base hov (Nat.le_trans HL.out.size HLQ.out.size))
    have HO3 := hid (owns_at HO.out hLA); have HD3 := hid (HD.out.later hLA)
    have HL3 := hid (Later.trans _ _ _ HL.out hLA)
    clear hov hL3 hLA HVQ HLQ p1 p2 HP12 HV1 HO HD HL
    go_upto_region 11 with (fail)
    obtain ⟨w4, hw4⟩ : ∃ w4, w4 = w3.alloc (.cells #[.int .i64 tm, .slice a3 vs.length c3] 79 (0, 0)) := ⟨_, rfl⟩
    obtain ⟨T, hT⟩ : ∃ T, T = w3.heap.size := ⟨_, rfl⟩
    have hL4 : Later w3 w4 := by rw [hw4]; exact Later.alloc _ _
    have HT4 : Hid (w4.heap[T]? = some (.cells #[.int .i64 tm, .slice a3 vs.length c3] 79 (0, 0))) := hid (by rw [hw4, hT]; exact obj_new _ _)
    rw [← hw4, ← hT]
    have HO4 := hid (owns_at HO3.out hL4); have HD4 := hid (HD3.out.later hL4); have HX4 := hid (owns_at HX3.out hL4)
    have HL4 := hid (Later.trans _ _ _ HL3.out hL4)
    have HTN : Hid (∀ b, (Value.slice a xs.length c1).ownBlock = some b → b ≠ T) := hid (fun b hb e => by have := (ownb HO3.out b hb).2; omega)
    clear hw4 hT hL4 HO3 HD3 HX3 HL3
    have t0 := cell_obj (i := 0) HT4.out (v := .int .i64 tm) rfl
    have t1 := cell_obj (i := 1) HT4.out (v := .slice a3 vs.length c3) rfl
    go_wp2_with (at_builtin; go_loud (refine wpList_append_obj rfl _ _ 73 rfl 79 2 32 Tryd.underlying73 rowElem rfl (owns_at HO4.out (Later.alloc _ _)) (news := [.int .i64 tm, .slice a3 vs.length c3]) rfl (obj_at (by simp)) rfl (row_ones ⟨⟨tm, vs⟩, .slice a3 vs.length c3⟩ ⟨_, _, _, rfl⟩) ?d1 ?d2 ?d3 ?_))
    case d1 => have := HXL.out; have := HLT.out; have := HLL.out; omega
    case d2 => have := HXL.out; have := HLT.out; have := HLL.out; unfold maxLen; omega
    case d3 => have := HL4.out.size; simp only [World.size_alloc]; omega
    intro v7 w7 hA7
    have hal := Later.alloc w4 (.cells #[.int .i64 tm, .slice a3 vs.length c3] 79 (0, 0))
    obtain ⟨y, hy⟩ : ∃ y : RX, y = ⟨⟨tm, vs⟩, .slice a3 vs.length c3⟩ := ⟨_, rfl⟩
    have hoA := owns_at HO4.out hal
    have hdA := HD4.out.later hal
    have hxA := owns_at HX4.out hal
    have hT7 : w7.heap[T]? = some (.cells #[.int .i64 tm, .slice a3 vs.length c3] 79 (0, 0)) := hA7.obj (hal.obj HT4.out) (fun e => HTN.out T e.symm rfl)
    have hTne : ∀ b, v7.ownBlock = some b → b ≠ T := fun b hb e => by
      subst e
      rcases hA7.block with h | ⟨g, h, hg⟩
      · exact HTN.out b (h ▸ hb) rfl
      · rw [h] at hb
        injection hb with hb
        have h1 := (Array.getElem?_eq_some_iff.1 HT4.out).1
        have h2 := hal.size
        omega
    have hL7 := hA7.later hoA (Later.trans _ _ _ HL4.out hal) (Nat.le_refl _)
    have hd7 : AllR w.heap.size w7 xs := hdA.keep hA7.keeps (hdA.off hoA)
    have hy7 : w7.ownsRow w.heap.size 25 3 (.slice a3 vs.length c3) vs.length (valCells vs) := owns_keep hxA hA7.keeps fun b hb hv => own_apart hoA hxA (by decide) b hv.symm hb
    have ho7 : w7.ownsRow w.heap.size 79 2 v7 (insAt xs xs.length y).length (rxCells (insAt xs xs.length y)) := by
      have := hA7.own
      rw [insAt_end, rxCells_app, List.length_append, hy]
      exact this
    obtain ⟨a7, c7, rfl⟩ := ownsRow_slice ho7
    have HY := hid hy
    have HL7 := hid hL7; have HD7 := hid hd7; have HO7 := hid ho7; have HY7 := hid hy7; have HT7 := hid hT7; have HTN7 := hid hTne
    clear hA7 hal hy hoA hdA hxA hL7 hd7 ho7 hy7 hT7 hTne HO4 HD4 HX4 HL4 HTN t0 t1 HT4
    have hlen : (insAt xs xs.length y).length = xs.length + 1 := insAt_length (Nat.le_refl _) y
    obtain ⟨g, e7, hgB, -, -, -⟩ := OwnR.cells HO7.out (i := 0) (by rw [hlen]; omega)
    subst e7
    have HST : Hid (InsSt w w.heap.size g T c7 xs y (insAt xs xs.length y) w7) := hid ⟨HO7.out, HD7.out, by rw [HY.out]; exact HY7.out, by rw [HY.out]; exact HT7.out, HL7.out, Ne.symm (HTN7.out g rfl), hgB⟩
    obtain ⟨n, hn⟩ : ∃ n, n = xs.length := ⟨_, rfl⟩
    rw [← hn] at hlen HK HST HXL
    simp only [hlen, ← hn]
    have HN := hid hn
    have hwn : wrap64 (n : Int) = n := by have := HLL.out; have := HXL.out; have := HI.out; unfold wrap64; omega
    have HNB : Hid (n ≤ 4398046511104) := hid (by have := HLL.out; have := HXL.out; have := HI.out; omega)
    clear hlen hgB HO7 HD7 HY7 HT7 HL7 HTN7 hn
    go_wp2_with fail
    try simp only [hwn]
    clear hwn
    obtain ⟨R4, hR4⟩ : ∃ RR_ : (Nat → Value) → World → Prop, RR_ = (fun us wy => ∃ (m : Nat) (z : RX), us 8 = .int .i64 m ∧ k ≤ m ∧ m ≤ n ∧ InsSt w w.heap.size g T c7 xs y (insAt xs m z) wy) := ⟨_, rfl⟩
    obtain ⟨mu4, hmu4⟩ : ∃ mu : (Nat → Value) → World → Nat, mu = (fun us _ => (intOf (us 8)).toNat) := ⟨_, rfl⟩
    have HR4 := hid hR4; have Hmu4 := hid hmu4; clear hR4 hmu4
    refine wp_loop_frame' [false, false, false, false, false, false, false, false, true, false, false, false, false, false, false, false, false, false, false, false, false, false, false, false, false, false, false, false, false, false, false, false, false, false, false, false, false, false, false, false, false, false, false, false, false, true, true, true, true, true, true, true, true, true, true, true, true, true] R4 _ mu4 HR4.out ?_ ?_
    · exact ⟨n, y, rfl, HK.out, Nat.le_refl _, HST.out⟩
    clear HST
    intro us4 wy hrel
    obtain ⟨m, z, h8, hkm, hmn, hst⟩ := hrel
    simp only [frameOf, Nat.reduceAdd, h8]
    have Hh8 := hid h8; clear h8
    have HKM := hid hkm; have HMN := hid hmn; have HST := hid hst
    clear hkm hmn hst
    by_cases hlt4 : k < m
    · obtain ⟨q, rfl⟩ : ∃ q, m = q + 1 := ⟨m - 1, by omega⟩
      have hqx : q < xs.length := by have := HMN.out; have := HN.out; omega
      have HQX := hid hqx
      have hqi : q < (insAt xs (q + 1) z).length := by rw [insAt_length hqx]; omega
      have hqi2 : q + 1 < (insAt xs (q + 1) z).length := by rw [insAt_length hqx]; omega
      have hil : (insAt xs (q + 1) z).length = n + 1 := by rw [insAt_length hqx, HN.out]
      obtain ⟨g', eg, -, q1, q2, hfr⟩ := OwnR.cells HST.out.own hqi
      simp only [Option.some.injEq, Addr.mk.injEq, and_true] at eg
      subst eg
      have f1 := hfr ((q + 1) * 2)
      have f2 := hfr ((q + 1) * 2 + 1)
      obtain ⟨c0, hc0⟩ : ∃ v, wy.cell? ⟨g, (q + 1) * 2, none⟩ = some v := by
        obtain ⟨g', eg, -, r1, -, -⟩ := OwnR.cells HST.out.own hqi2
        simp only [Option.some.injEq, Addr.mk.injEq, and_true] at eg
        subst eg
        exact ⟨_, r1⟩
      obtain ⟨c1', hc1⟩ : ∃ v, wy.cell? ⟨g, (q + 1) * 2 + 1, none⟩ = some v := by
        obtain ⟨g', eg, -, -, r2, -⟩ := OwnR.cells HST.out.own hqi2
        simp only [Option.some.injEq, Addr.mk.injEq, and_true] at eg
        subst eg
        exact ⟨_, r2⟩
      have hget := insAt_get hqx z
      rw [hget] at q1 q2
      obtain ⟨ax, cx, hxv⟩ := HST.out.all.slice (List.getElem_mem hqx)
      have HPUT := hid (HST.out.put (Nat.le_refl _) hqi2 (xs[q]'hqx))
      have HSH : Hid ((insAt xs (q + 1) z).set (q + 1) (xs[q]'hqx) = insAt xs q (xs[q]'hqx)) := hid (by rw [insAt_set hqx]; exact insAt_shift hqx z)
      rw [HSH.out] at HPUT
      rw [hxv] at q2
      have hself : xs[q] = xs[q] := rfl
      generalize hX : xs[q] = X at q1 q2 HPUT hself hxv
      obtain ⟨⟨tx, vx⟩, vX⟩ := X
      simp only at q1 q2 hxv
      subst hxv
      have hw1 : wrap64 (q : Int) = q := by have := HMN.out; have := HNB.out; unfold wrap64; omega
      have HW1 := hid hw1
      have hkq : (k : Int) < (q : Int) + 1 := by omega
      have hq0 : (q : Int) < (n : Int) + 1 := by have := HMN.out; omega
      have hq1 : (q : Int) + 1 < (n : Int) + 1 := by have := HMN.out; omega
      clear hself hX hget hfr hqi hqi2 hil HSH
      go_upto_region 14 with (fail)
      obtain ⟨w15, hw15⟩ : ∃ w15, w15 = (wy.setCell ⟨g, (q + 1) * 2, none⟩ (.int .i64 tx)).setCell ⟨g, (q + 1) * 2 + 1, none⟩ (.slice ax vx.length cx) := ⟨_, rfl⟩
      have HP15 : Hid (InsSt w w.heap.size g T c7 xs y (insAt xs q ⟨⟨tx, vx⟩, .slice ax vx.length cx⟩) w15) := hid (by rw [hw15]; exact HPUT.out)
      rw [← hw15]
      clear hw15 HPUT q1 q2 f1 f2 hc0 hc1
      go_wp2_with fail
      try simp only [HW1.out]
      refine Round.mk' HR4.out Hmu4.out rfl ?_ ?_
      · exact ⟨q, _, rfl, by omega, by have := HMN.out; omega, HP15.out⟩
      · rw [Hh8.out]; simp [intOf, slots]; try omega
    · have hkm : m = k := by have := HKM.out; omega
      subst hkm
      have hmx : m ≤ xs.length := by have := HMN.out; have := HN.out; omega
      have hqi : m < (insAt xs m z).length := by rw [insAt_length hmx]; omega
      obtain ⟨g', eg, -, q1, q2, hfr⟩ := OwnR.cells HST.out.own hqi
      simp only [Option.some.injEq, Addr.mk.injEq, and_true] at eg
      subst eg
      have f1 := hfr (m * 2)
      have f2 := hfr (m * 2 + 1)
      have HPUT := hid (HST.out.put (Nat.le_refl _) hqi y)
      rw [insAt_set hmx] at HPUT
      have hyy := HY.out
      have HOBJ := hid HST.out.obj
      rw [hyy] at HOBJ
      have t0 := cell_obj (i := 0) HOBJ.out (v := .int .i64 tm) rfl
      have t1 := cell_obj (i := 1) HOBJ.out (v := .slice a3 vs.length c3) rfl
      have hmn : (m : Int) < (n : Int) + 1 := by have := HMN.out; omega
      have HFIN : Hid ((insAt xs m y).length = n + 1 ∧ ((insAt xs m y).map (·.row)).Perm (l.take (i + 1)) ∧ SortedR ((insAt xs m y).map (·.row))) := hid (by
        refine ⟨by rw [insAt_length hmx, HN.out], ?_, ?_⟩
        · rw [HTK.out]
          refine ((insAt_perm xs m y).map _).trans ?_
          rw [List.map_append, hyy]
          exact HP.out.append_right _
        · rw [insAt_map, hyy]
          refine sortedR_ins HS.out (by rw [List.length_map]; exact hmx) (fun h => ?_) (fun j h hj => ?_)
          · rw [List.getElem_map]; exact HB1.out h (by omega)
          · rw [List.getElem_map]; exact HB2.out j (by rw [List.length_map] at h; exact h) hj)
      clear hyy hfr hlt4 HOBJ
      go_upto_region 4 with (fail)
      obtain ⟨w16, hw16⟩ : ∃ w16, w16 = (wy.setCell ⟨g, m * 2, none⟩ (.int .i64 tm)).setCell ⟨g, m * 2 + 1, none⟩ (.slice a3 vs.length c3) := ⟨_, rfl⟩
      have HP16 : Hid (InsSt w w.heap.size g T c7 xs y (insAt xs m y) w16) := hid (by
        have h := HPUT.out
        have e := HY.out
        rw [show y.row.time = tm by rw [e], show y.v = .slice a3 vs.length c3 by rw [e], ← hw16] at h
        exact h)
      rw [← hw16]
      clear hw16 HPUT q1 q2 f1 f2 t0 t1
      go_wp2_with fail
      try simp only [HWI.out]
      refine Round.mk' HR1.out Hmu1.out rfl ?_ ?_
      · refine ⟨i + 1, insAt xs m y, some ⟨g, 0, none⟩, c7, rfl, by rw [HFIN.out.1]; rfl, HLT.out, by rw [HFIN.out.1, HXL.out], HP16.out.own, ?_, HFIN.out.2.1, HFIN.out.2.2, HP16.out.later⟩
        intro x hx
        rcases insAt_mem hx with hx | rfl
        · exact HP16.out.all x hx
        · exact HP16.out.one
      · rw [Hh4.out]; have := HLT.out; simp [intOf, slots]; omega
  · go_wp2_with fail
    go_ret
    have hke : i = l.length := by have := HI.out; omega
    exact ⟨_, xs, rfl, HO.out, HD.out, by have := HP.out; rwa [hke, List.take_length] at this, HS.out, HL.out⟩
end Go.Proofs.YtcmpjdnbjhkhdaaDoor
