/-
  PROVED HERE: the walk of streamwrightlaw5.WindowCovers.
-/
import Derived.Test.YthfgjmdmcoogpaaWinMerge
import Derived.Test.YthfgjmdmcoogpaaWinAssign
import Derived.Test.YthfgjmdmcoogpaaCoversPlain
namespace Go.Proofs.Ythfgjmdmcoogpaa
set_option linter.unusedSimpArgs false
set_option linter.unusedVariables false
open Go.RowKit

/-- what window.Assign hands back, whatever came in. -/
def AssignAll (w : World) (k s p t : Int) (e : Ending) (w' : World) : Prop :=
  ∃ (v ev : Value) (ok : Bool) (L : List Win), e = .returned (.tuple #[v, ev]) ∧ WinsIn (fun _ => True) w' v L ∧ Later w w' ∧ (ev = .nilIface ∧ ok = true ∨ ev = .iface 53 (.int .i64 4) ∧ ok = false) ∧
    (ok = true → validW k s p = true ∧ L = assignW k s p t ∧ Holding t L) ∧ (ok = false → L = [])
theorem assign_all (k s p t : Int) (w : World) (hs : -9223372036854775808 ≤ s ∧ s ≤ 9223372036854775807) : Calls Try.prog 13 #[.agg #[.int .i64 k, .int .i64 s, .int .i64 p], .int .i64 t] w (AssignAll w k s p t) := by
  by_cases hok : validW k s p = true ∧ 0 ≤ t ∧ t ≤ 1099511627776
  · refine (assign_any k s p t w hok.1 hok.2).mono ?_
    rintro e w' ⟨v, rfl, ho, hL⟩
    exact ⟨v, _, true, _, rfl, (owned_wins ho).map fun _ _ _ _ h => ⟨trivial, h⟩, hL, .inl ⟨rfl, rfl⟩, fun _ => ⟨hok.1, rfl, assign_holding hok.1 hok.2⟩, fun h => by cases h⟩
  · have hno : validW k s p = false ∨ t < 0 ∨ 1099511627776 < t := by
      cases hv : validW k s p with
      | false => exact .inl rfl
      | true => rw [hv] at hok; simp only [true_and] at hok; exact .inr (by omega)
    refine (assign_no k s p t w hs hno).mono ?_
    rintro e w' ⟨rfl, hL⟩
    exact ⟨_, _, false, [], rfl, ⟨none, 0, rfl, Nat.le_refl _, by unfold maxLen; omega, fun _ => rfl, fun i hi => (by cases hi)⟩, hL, .inr ⟨rfl, rfl⟩, fun h => (by cases h), fun _ => rfl⟩

set_option maxRecDepth 100000 in
set_option maxHeartbeats 8000000 in
theorem covers_walk (k s p t : Int) (l : List Win) (v : Value) (w : World) (hs : -9223372036854775808 ≤ s ∧ s ≤ 9223372036854775807) (hv : WinsIn (fun _ => True) w v l) (hl : l.length * 16 ≤ 140737488355328) :
    Calls Try.prog 4 #[.agg #[.int .i64 k, .int .i64 s, .int .i64 p], .int .i64 t, v] w (BoolW w true) := by
  have HV := hid hv; have HLL := hid hl; have HS := hid hs
  obtain ⟨pl, cl, rfl, -⟩ := hv
  clear hl hs
  go_enter Try.func4, Try.ntmps4
  go_upto_region 1 with (fail)
  obtain ⟨X, hX⟩ : ∃ X, X = w.heap.size := ⟨_, rfl⟩
  obtain ⟨w1, hw1⟩ : ∃ w1, w1 = w.alloc (.cells #[.int .i64 k, .int .i64 s, .int .i64 p] 31 (0, 0)) := ⟨_, rfl⟩
  have HL1 : Hid (Later w w1) := hid (by rw [hw1]; exact Later.alloc _ _)
  have HX1 : Hid (w1.heap[X]? = some (.cells #[.int .i64 k, .int .i64 s, .int .i64 p] 31 (0, 0))) := hid (by rw [hw1, hX]; exact obj_new _ _)
  rw [← hw1, ← hX]
  clear hw1 hX
  go_wp2_with fail
  refine (assign_any 1 10 0 25 _ rfl (by decide)).mono ?_
  rintro e w2 ⟨v2, rfl, ho2, hL2⟩
  have ho2' : OwnW w1.heap.size w2 v2 [(20, 30)] := by have h := ho2; rw [assign_one] at h; exact h
  obtain ⟨a2, c2, rfl⟩ := OwnW.slice ho2'
  obtain ⟨g2, rfl, -, p1, p2, -⟩ := OwnW.cells (i := 0) ho2' (by decide)
  have HX2 := hid (hL2.obj HX1.out)
  have HL2 := hid (Later.trans _ _ _ HL1.out hL2)
  clear ho2 ho2' hL2 HX1 HL1
  simp only [List.length_singleton, List.getElem_cons_zero] at p1 p2 ⊢
  go_upto_region 4 with (fail)
  clear p1 p2
  have x0 := cell_obj (i := 0) HX2.out (v := .int .i64 k) rfl
  have x1 := cell_obj (i := 1) HX2.out (v := .int .i64 s) rfl
  have x2 := cell_obj (i := 2) HX2.out (v := .int .i64 p) rfl
  go_wp2_with fail
  refine (assign_all k s p t _ HS.out).mono ?_
  rintro e w3 ⟨v3, ev, ok, L, rfl, hv3, hL3, hev, hyes, hno⟩
  have HX3 := hid (hL3.obj HX2.out)
  have HL3 := hid (Later.trans _ _ _ HL2.out hL3)
  have HV3 := hid hv3; have HY := hid hyes; have HN := hid hno; have HEV := hid hev
  obtain ⟨a3, c3, rfl, hc3, hm3, -, he3⟩ := hv3
  have HC3 := hid (And.intro hc3 hm3); have HE3 := hid he3
  clear hL3 hev hyes hno HX2 HL2 x0 x1 x2 hc3 hm3 he3
  go_upto_region 5 with (fail)
  obtain ⟨R1, hR1⟩ : ∃ RR_ : (Nat → Value) → World → Prop, RR_ = (fun us wq => us 50 = .bool false ∧ w3 = wq) := ⟨_, rfl⟩
  have HR1 := hid hR1; clear hR1
  refine wp_cut_frame' [false, false, false, false, false, false, false, false, false, false, false, false, false, false, false, false, false, false, false, false, false, false, false, false, false, false, false, false, false, false, false, false, false, false, false, false, false, false, false, false, false, false, false, false, true, true, true, true, true, true, true] R1 _ HR1.out ?_ ?_
  · rcases HEV.out with ⟨rfl, rfl⟩ | ⟨rfl, rfl⟩
    · have hle : L.length ≠ 0 := fun h => (HY.out rfl).2.2.some (List.eq_nil_of_length_eq_zero h)
      have hle2 : ((L.length : Int) == 0) = false := beq_eq_false_iff_ne.2 (by omega)
      go_wp2_with fail
      refine Meet.mk' HR1.out rfl ?_
      exact ⟨rfl, rfl⟩
    · go_wp2_with fail
      refine Meet.mk' HR1.out rfl ?_
      exact ⟨rfl, rfl⟩
  intro us1 wz1 hrel
  obtain ⟨h50, rfl⟩ := hrel
  simp only [frameOf, Nat.reduceAdd, h50]
  have Hh50 := hid h50; clear h50
  go_upto_region 7 with (fail)
  go_wp2_with fail
  obtain ⟨R2, hR2⟩ : ∃ RR_ : (Nat → Value) → World → Prop, RR_ = (fun us wx => ∃ i : Nat, us 11 = .int .i64 i ∧ i ≤ L.length ∧ Later w3 wx) := ⟨_, rfl⟩
  obtain ⟨mu2, hmu2⟩ : ∃ mu : (Nat → Value) → World → Nat, mu = (fun us _ => L.length - (intOf (us 11)).toNat) := ⟨_, rfl⟩
  have HR2 := hid hR2; have Hmu2 := hid hmu2; clear hR2 hmu2
  refine wp_loop_frame' [false, false, false, false, false, false, true, false, false, false, false, true, false, false, false, false, false, false, false, false, false, false, false, false, false, false, false, false, false, false, false, false, false, false, false, false, false, false, false, false, false, false, false, false, false, false, false, false, false, false, false, true, true, true, true, true, true, true, true, true, true, true, true, true, true, true, true, true, true, true, true, true, true, true, true, true, true, true, true, true, true, true, true, true, true, true, true, true, true, true, true, true, true, true, true, true, true, true, true, true, true, true, true, true, true] R2 _ mu2 HR2.out ?_ ?_
  · exact ⟨0, rfl, Nat.zero_le _, Later.refl _⟩
  intro us2 w4 hrel
  obtain ⟨i, h11, hi, hL⟩ := hrel
  simp only [frameOf, Nat.reduceAdd, h11]
  have Hh11 := hid h11; clear h11
  have HI := hid hi; have HL := hid hL
  clear hi hL
  by_cases hlt : i < L.length
  · have HLT := hid hlt
    have hho : Holding t L := by
      cases ok with
      | true => exact (HY.out rfl).2.2
      | false => have := HN.out rfl; subst this; simp at hlt
    have HHO := hid hho
    have hin := hho.holds L[i] (List.getElem_mem _)
    obtain ⟨b, o, hab, -, p1, p2⟩ := HE3.out i hlt
    subst hab
    replace p1 := HL.out.cell p1
    replace p2 := HL.out.cell p2
    have HWI : Hid (wrap64 ((i : Int) + 1) = ((i + 1 : Nat) : Int)) := hid (by have := HC3.out; unfold maxLen at this; have := HLT.out; unfold wrap64; omega)
    have hfin : (Hid (∀ w5 : World, Later w3 w5 → True)) := hid fun _ _ => trivial
    generalize hx : L[i] = x at p1 p2 hin
    have HX := hid hx
    clear hx hho
    obtain ⟨x1, x2⟩ := x
    simp only at p1 p2 hin
    have g1 : ¬ t < x1 := by omega
    have g2 : ¬ x2 ≤ t := by omega
    rcases Nat.eq_zero_or_pos i with hi0 | hi0
    · subst hi0
      clear hfin
      simp only [Nat.zero_mul, Nat.add_zero] at p1 p2
      go_upto_region 10 with (fail)
      refine wp_region_lex (by kernel_rfl) (by kernel_rfl) Later Later.refl Later.trans (fun _ => none) (fun _ _ _ _ _ h => by cases h) ?_
      simp only [numbered, Nat.reduceAdd]
      refine LexS.out ?_
      iterate 48
        first
        | (refine LexS.skip rfl ?_; simp only [Act.put, List.setIfInBounds_toArray, List.set])
        | (refine LexS.one' rfl rfl ?_
           apply Exists.intro
           refine ⟨fun w hR hF => ?_, ?_⟩
           · have hP := hR
             repeat (first | replace hP := Later.of_drew hP | replace hP := Later.of_drewN hP | replace hP := Later.of_alloc hP)
             have hcs := hR.cells
             have zp1 := hP.cell p1
             have zp2 := hP.cell p2
             clear hR hF hP
             go_simp
             first | done | rfl
           simp only [Act.put, List.setIfInBounds_toArray, List.set])
      refine LexS.nil ?_
      intro w5 hR5 hF9
      clear hF9
      repeat (first | replace hR5 := Later.of_drew hR5 | replace hR5 := Later.of_drewN hR5 | replace hR5 := Later.of_alloc hR5)
      have HL5 := hid (Later.trans _ _ _ HL.out hR5)
      clear hR5 p1 p2 HL
      go_wp2_with fail
      try simp only [HWI.out]
      refine Round.mk' HR2.out Hmu2.out rfl ?_ ?_
      · exact ⟨1, rfl, HLT.out, HL5.out⟩
      · rw [Hh11.out]; have := HLT.out; simp [intOf, slots]; omega
    · obtain ⟨j, rfl⟩ : ∃ j, i = j + 1 := ⟨i - 1, by omega⟩
      have hrise := HHO.out.rise j HLT.out
      have hjl : j < L.length := by omega
      obtain ⟨b', o', hab, -, q1, q2⟩ := HE3.out j hjl
      simp only [Option.some.injEq, Addr.mk.injEq, and_true] at hab
      obtain ⟨rfl, rfl⟩ := hab
      replace q1 := HL.out.cell q1
      replace q2 := HL.out.cell q2
      have hr1 : (L[j]'hjl).1 < x1 := Int.lt_of_lt_of_le hrise.1 (Int.le_of_eq (congrArg Prod.fst HX.out))
      have hr2 : (L[j]'hjl).2 < x2 := Int.lt_of_lt_of_le hrise.2 (Int.le_of_eq (congrArg Prod.snd HX.out))
      generalize hy : L[j] = y at q1 q2 hr1 hr2
      clear hy hfin
      obtain ⟨y1, y2⟩ := y
      simp only at q1 q2 hr1 hr2
      have g3 : ¬ x1 ≤ y1 := by omega
      have g4 : ¬ x2 ≤ y2 := by omega
      have hjb : (j : Int) ≤ 9223372036854775805 := by have := HC3.out; unfold maxLen at this; omega
      have HWJ : Hid (wrap64 ((j : Int) + 1 + 1) = ((j + 2 : Nat) : Int)) := hid (by unfold wrap64; omega)
      have hw1 : IntKind.i64.wrap (j : Int) = j := IntWalk.i64_in _ (by omega)
      have hw2 : IntKind.i64.wrap (((j + 1 : Nat) : Int) - 1) = j := (IntWalk.i64_in _ (by omega)).trans (by omega)
      have hjl2 : (j : Int) < (L.length : Int) := by omega
      have hjl3 : ((j : Int) + 1) < (L.length : Int) := by omega
      have hjp : (0 : Int) < (j : Int) + 1 := by omega
      clear hrise hjb hr1 hr2
      go_upto_region 10 with (fail)
      refine wp_region_lex (by kernel_rfl) (by kernel_rfl) Later Later.refl Later.trans (fun _ => none) (fun _ _ _ _ _ h => by cases h) ?_
      simp only [numbered, Nat.reduceAdd]
      refine LexS.out ?_
      iterate 48
        first
        | (refine LexS.skip rfl ?_; simp only [Act.put, List.setIfInBounds_toArray, List.set])
        | (refine LexS.one' rfl rfl ?_
           apply Exists.intro
           refine ⟨fun w hR hF => ?_, ?_⟩
           · have hP := hR
             repeat (first | replace hP := Later.of_drew hP | replace hP := Later.of_drewN hP | replace hP := Later.of_alloc hP)
             have hcs := hR.cells
             have zp1 := hP.cell p1
             have zp2 := hP.cell p2
             have zq1 := hP.cell q1
             have zq2 := hP.cell q2
             clear hR hF hP
             go_simp
             first | done | rfl
           simp only [Act.put, List.setIfInBounds_toArray, List.set])
      refine LexS.nil ?_
      intro w5 hR5 hF9
      clear hF9
      repeat (first | replace hR5 := Later.of_drew hR5 | replace hR5 := Later.of_drewN hR5 | replace hR5 := Later.of_alloc hR5)
      have HL5 := hid (Later.trans _ _ _ HL.out hR5)
      clear hR5 p1 p2 q1 q2 HL
      go_wp2_with fail
      try simp only [HWJ.out]
      refine Round.mk' HR2.out Hmu2.out rfl ?_ ?_
      · exact ⟨j + 2, rfl, HLT.out, HL5.out⟩
      · rw [Hh11.out]; have := HLT.out; simp [intOf, slots]; omega
  · go_upto_region 12 with (fail)
    clear hlt
    have HX4 := hid (HL.out.obj HX3.out)
    have HL4 := hid (Later.trans _ _ _ HL3.out HL.out)
    have HV4 := hid (HV.out.wins_later HL4.out)
    have x0 := cell_obj (i := 0) HX4.out (v := .int .i64 k) rfl
    obtain ⟨R3, hR3⟩ : ∃ RR_ : (Nat → Value) → World → Prop, RR_ = (fun us wq => us 111 = .bool (ok && decide (k = 2)) ∧ w4 = wq) := ⟨_, rfl⟩
    have HR3 := hid hR3; clear hR3
    refine wp_cut_frame' [false, false, false, false, false, false, false, false, false, false, false, false, false, false, false, false, false, false, false, false, false, false, false, false, false, false, false, false, false, false, false, false, false, false, false, false, false, false, false, false, false, false, false, false, false, false, false, false, false, false, false, false, false, false, false, false, false, false, false, false, false, false, false, false, false, false, false, false, false, false, false, false, false, false, false, false, false, false, false, false, false, false, false, false, false, false, false, false, false, false, false, false, false, false, false, false, false, false, false, false, false, false, false, false, false, true, true, true, true, true, true, true] R3 _ HR3.out ?_ ?_
    · rcases HEV.out with ⟨rfl, rfl⟩ | ⟨rfl, rfl⟩
      · by_cases hk2 : k = 2
        · subst hk2
          go_wp2_with fail
          refine Meet.mk' HR3.out rfl ?_
          exact ⟨rfl, rfl⟩
        · have hk3 : (k == 2) = false := beq_eq_false_iff_ne.2 hk2
          have HK3 := hid hk2
          go_wp2_with fail
          refine Meet.mk' HR3.out rfl ?_
          exact ⟨by have := HK3.out; simp [slots, this], rfl⟩
      · go_wp2_with fail
        refine Meet.mk' HR3.out rfl ?_
        exact ⟨rfl, rfl⟩
    clear x0 HX3 HL3 HL
    intro us3 wz3 hrel
    obtain ⟨h111, rfl⟩ := hrel
    simp only [frameOf, Nat.reduceAdd, h111]
    have Hh111 := hid h111; clear h111
    obtain ⟨B, hB⟩ : ∃ B, B = (ok && decide (k = 2)) := ⟨_, rfl⟩
    rw [← hB]
    have HB := hid hB
    clear hB
    have x1 := cell_obj (i := 1) HX4.out (v := .int .i64 s) rfl
    have x2 := cell_obj (i := 2) HX4.out (v := .int .i64 p) rfl
    go_upto_if 111 with (fail)
    obtain ⟨R4, hR4⟩ : ∃ RR_ : (Nat → Value) → World → Prop, RR_ = (fun us wq => w4 = wq) := ⟨_, rfl⟩
    have HR4 := hid hR4; clear hR4
    refine wp_cut_frame' [false, false, false, false, false, false, false, false, false, false, false, false, true, false, false, false, false, false, false, false, false, false, false, false, false, false, false, false, false, false, false, false, false, false, false, false, false, false, false, false, false, false, false, false, false, false, false, false, false, false, false, false, false, false, false, false, false, false, false, false, false, false, false, false, false, false, false, false, false, false, false, false, false, false, false, false, false, false, false, false, false, false, false, false, false, false, false, false, false, false, false, false, false, false, false, false, false, false, false, false, false, false, false, false, false, false, false, false, false, false, false, false, true, true, true, true, true, true, true, true, true, true, true, true, true, true, true, true, true, true, true, true, true, true, true] R4 _ HR4.out ?_ ?_
    · cases B with
      | false =>
        go_wp2_with fail
        refine Meet.mk' HR4.out rfl ?_
        rfl
      | true =>
        have hB := HB.out
        rw [eq_comm, Bool.and_eq_true, decide_eq_true_eq] at hB
        obtain ⟨rfl, rfl⟩ := hB
        obtain ⟨y1, y2, -⟩ := HY.out rfl
        have hc := assign_count (t := t) y1
        rw [← y2] at hc
        obtain ⟨n, hn⟩ : ∃ n, n = L.length := ⟨_, rfl⟩
        rw [← hn] at hc ⊢
        obtain ⟨hc1, hc2, hc3, hc4, hc5, hc6, hc7⟩ := hc
        obtain ⟨M, hM⟩ : ∃ M, M = (n : Int) * p := ⟨_, rfl⟩
        obtain ⟨M', hM'⟩ : ∃ M', M' = ((n : Int) + 1) * p := ⟨_, rfl⟩
        rw [← hM] at hc1
        rw [← hM'] at hc2
        have e0 : M' = M + p := by rw [hM', hM, Int.add_mul]; omega
        have e1 : wrap64 ((n : Int) * p) = M := by rw [← hM]; unfold wrap64; omega
        have e2 : wrap64 (((n : Int) + 1) * p) = M' := by rw [← hM']; unfold wrap64; omega
        have e3 : wrap64 (s + p) = s + p := by unfold wrap64; omega
        have e4 : wrap64 (s + p - 1) = s + p - 1 := by unfold wrap64; omega
        have e5 : wrap64 ((n : Int) + 1) = (n : Int) + 1 := by unfold wrap64; omega
        have e6 : ¬ s + p - 1 < M := by omega
        have e7 : ¬ M' ≤ s := by omega
        clear hc1 hc2 hc3 hc4 hc5 hc6 hc7 hM hM' e0 hn
        go_wp2_with fail
        refine Meet.mk' HR4.out rfl ?_
        rfl
    clear x1 x2 HX4 HB
    intro us4 wz4 hrel
    obtain rfl := hrel
    simp only [frameOf, Nat.reduceAdd]
    go_upto_region 16 with (fail)
    go_wp2_with fail
    refine (wmerge_any l _ _ HV4.out HLL.out).mono ?_
    rintro e w5 ⟨v5, O, rfl, ho5, hm5, hn5, hL5⟩
    obtain ⟨a5, c5, rfl⟩ := OwnW.slice ho5
    have HM := hid hm5; have HN5 := hid hn5
    have HV5 := hid (HV4.out.wins_later hL5)
    have HL5 := hid (Later.trans _ _ _ HL4.out hL5)
    obtain ⟨p5, c5', e5, -, -, -, he5⟩ := owned_wins ho5
    simp only [Value.slice.injEq, true_and] at e5
    obtain ⟨rfl, rfl⟩ := e5
    have HE5 := hid he5
    obtain ⟨pv, cv, ev5, -, -, -, hev⟩ := HV5.out
    simp only [Value.slice.injEq, true_and] at ev5
    obtain ⟨rfl, rfl⟩ := ev5
    have HEV5 := hid hev
    have HOB : Hid (O.length ≤ 8796093022208) := hid (by have := HLL.out; omega)
    have HLB : Hid (l.length ≤ 8796093022208) := hid (by have := HLL.out; omega)
    clear hm5 hn5 hL5 ho5 he5 hev HV5 HV4 HL4 HV
    go_wp2_with fail
    obtain ⟨R5, hR5⟩ : ∃ RR_ : (Nat → Value) → World → Prop, RR_ = (fun us wx => ∃ i : Nat, us 14 = .int .i64 i ∧ i ≤ O.length ∧ Later w5 wx) := ⟨_, rfl⟩
    obtain ⟨mu5, hmu5⟩ : ∃ mu : (Nat → Value) → World → Nat, mu = (fun us _ => O.length - (intOf (us 14)).toNat) := ⟨_, rfl⟩
    have HR5 := hid hR5; have Hmu5 := hid hmu5; clear hR5 hmu5
    refine wp_loop_frame' [false, false, false, false, false, false, true, false, false, false, false, false, false, false, true, true, false, false, false, false, false, false, false, false, false, false, false, false, false, false, false, false, false, false, false, false, false, false, false, false, false, false, false, false, false, false, false, false, false, false, false, false, false, false, false, false, false, false, false, false, false, false, false, false, false, false, false, false, false, false, false, false, false, false, false, false, false, false, false, false, false, false, false, false, false, false, false, false, false, false, false, false, false, false, false, false, false, false, false, false, false, false, false, false, false, false, false, false, false, false, false, false, false, false, false, false, false, false, false, false, false, false, false, false, false, false, false, false, false, false, false, false, false, false, false, false, false, true, true, true, true, true, true, true, true, true, true, true, true, true, true, true, true, true, true, true, true, true, true, true, true, true, true, true, true, true, true, true, true, true, true, true] R5 _ mu5 HR5.out ?_ ?_
    · exact ⟨0, rfl, Nat.zero_le _, Later.refl _⟩
    intro us5 w6 hrel
    obtain ⟨i, h14, hi, hL⟩ := hrel
    simp only [frameOf, Nat.reduceAdd, h14]
    have Hh14 := hid h14; clear h14
    have HI6 := hid hi; have HL6 := hid hL
    clear hi hL
    by_cases hlt : i < O.length
    · have HLT := hid hlt
      have HWI : Hid (wrap64 ((i : Int) + 1) = ((i + 1 : Nat) : Int)) := hid (by have := HOB.out; unfold wrap64; omega)
      obtain ⟨b, o, hab, -, p1, p2⟩ := HE5.out i hlt
      subst hab
      have HP := hid (And.intro p1 p2)
      clear p1 p2
      go_wp2_with fail
      obtain ⟨R6, hR6⟩ : ∃ RR_ : (Nat → Value) → World → Prop, RR_ = (fun us wx => ∃ k : Nat, us 15 = .int .i64 k ∧ k ≤ i ∧ Later w5 wx) := ⟨_, rfl⟩
      obtain ⟨mu6, hmu6⟩ : ∃ mu : (Nat → Value) → World → Nat, mu = (fun us _ => i - (intOf (us 15)).toNat) := ⟨_, rfl⟩
      have HR6 := hid hR6; have Hmu6 := hid hmu6; clear hR6 hmu6
      refine wp_loop_frame' [false, false, false, false, false, false, true, false, false, false, false, false, false, false, false, true, false, false, false, false, false, false, false, false, false, false, false, false, false, false, false, false, false, false, false, false, false, false, false, false, false, false, false, false, false, false, false, false, false, false, false, false, false, false, false, false, false, false, false, false, false, false, false, false, false, false, false, false, false, false, false, false, false, false, false, false, false, false, false, false, false, false, false, false, false, false, false, false, false, false, false, false, false, false, false, false, false, false, false, false, false, false, false, false, false, false, false, false, false, false, false, false, false, false, false, false, false, false, false, false, false, false, false, false, false, false, false, false, false, false, false, false, false, false, false, false, false, false, false, false, false, false, false, true, true, true, true, true, true, true, true, true, true, true, true, true, true, true, true, true, true, true, true, true, true, true, true, true, true, true, true, true] R6 _ mu6 HR6.out ?_ ?_
      · exact ⟨0, rfl, Nat.zero_le _, HL6.out⟩
      clear HL6
      intro us6 w7 hrel
      obtain ⟨k, h15, hk, hL⟩ := hrel
      simp only [frameOf, Nat.reduceAdd, h15]
      have Hh15 := hid h15; clear h15
      have HK7 := hid hk; have HL7 := hid hL
      clear hk hL
      by_cases hki : k < i
      · have HKI := hid hki
        have HWK : Hid (wrap64 ((k : Int) + 1) = ((k + 1 : Nat) : Int)) := hid (by have := HOB.out; unfold wrap64; omega)
        have hno := HM.out.no_meet HLT.out hki
        have hko : k < O.length := by omega
        obtain ⟨b', o', hab, -, q1, q2⟩ := HE5.out k hko
        simp only [Option.some.injEq, Addr.mk.injEq, and_true] at hab
        obtain ⟨rfl, rfl⟩ := hab
        replace q1 := HL7.out.cell q1
        replace q2 := HL7.out.cell q2
        have p1 := HL7.out.cell HP.out.1
        have p2 := HL7.out.cell HP.out.2
        generalize O[i] = x at p1 p2 hno
        generalize O[k] = y at q1 q2 hno
        obtain ⟨x1, x2⟩ := x
        obtain ⟨y1, y2⟩ := y
        simp only at p1 p2 q1 q2 hno
        go_upto_region 23 with (fail)
        refine wp_region_lex (by kernel_rfl) (by kernel_rfl) Later Later.refl Later.trans (fun _ => none) (fun _ _ _ _ _ h => by cases h) ?_
        simp only [numbered, Nat.reduceAdd]
        refine LexS.out ?_
        iterate 24
          first
          | (refine LexS.skip rfl ?_; simp only [Act.put, List.setIfInBounds_toArray, List.set])
          | (refine LexS.one' rfl rfl ?_
             apply Exists.intro
             refine ⟨fun w hR hF => ?_, ?_⟩
             · have hP := hR
               repeat (first | replace hP := Later.of_drew hP | replace hP := Later.of_drewN hP | replace hP := Later.of_alloc hP)
               have hcs := hR.cells
               have zp1 := hP.cell p1
               have zp2 := hP.cell p2
               have zq1 := hP.cell q1
               have zq2 := hP.cell q2
               clear hR hF hP
               go_simp
               first | done | rfl
             simp only [Act.put, List.setIfInBounds_toArray, List.set])
        refine LexS.nil ?_
        intro w8 hR8 hF9
        clear hF9
        repeat (first | replace hR8 := Later.of_drew hR8 | replace hR8 := Later.of_drewN hR8 | replace hR8 := Later.of_alloc hR8)
        have HL8 := hid (Later.trans _ _ _ HL7.out hR8)
        clear hR8 p1 p2 q1 q2 HL7
        go_wp2_with fail
        try simp only [HWK.out]
        refine Round.mk' HR6.out Hmu6.out rfl ?_ ?_
        · exact ⟨k + 1, rfl, HKI.out, HL8.out⟩
        · rw [Hh15.out]; have := HKI.out; simp [intOf, slots]; omega
      · go_wp2_with fail
        try simp only [HWI.out]
        refine Round.mk' HR5.out Hmu5.out rfl ?_ ?_
        · exact ⟨i + 1, rfl, HLT.out, HL7.out⟩
        · rw [Hh14.out]; have := HLT.out; simp [intOf, slots]; omega
    · go_upto_region 25 with (fail)
      clear hlt
      go_wp2_with fail
      obtain ⟨R7, hR7⟩ : ∃ RR_ : (Nat → Value) → World → Prop, RR_ = (fun us wx => ∃ i : Nat, us 16 = .int .i64 i ∧ i ≤ l.length ∧ Later w5 wx) := ⟨_, rfl⟩
      obtain ⟨mu7, hmu7⟩ : ∃ mu : (Nat → Value) → World → Nat, mu = (fun us _ => l.length - (intOf (us 16)).toNat) := ⟨_, rfl⟩
      have HR7 := hid hR7; have Hmu7 := hid hmu7; clear hR7 hmu7
      refine wp_loop_frame' [false, false, false, false, false, false, true, false, false, false, false, false, false, false, false, false, true, true, true, false, false, false, false, false, false, false, false, false, false, false, false, false, false, false, false, false, false, false, false, false, false, false, false, false, false, false, false, false, false, false, false, false, false, false, false, false, false, false, false, false, false, false, false, false, false, false, false, false, false, false, false, false, false, false, false, false, false, false, false, false, false, false, false, false, false, false, false, false, false, false, false, false, false, false, false, false, false, false, false, false, false, false, false, false, false, false, false, false, false, false, false, false, false, false, false, false, false, false, false, false, false, false, false, false, false, false, false, false, false, false, false, false, false, false, false, false, false, false, false, false, false, false, false, false, false, false, false, false, false, false, false, false, false, false, false, false, false, false, false, false, false, false, false, false, false, false, false, false, false, false, false, false, true, true, true, true, true, true, true, true, true, true, true, true, true, true, true, true, true, true, true, true, true, true, true, true, true, true, true, true, true, true, true, true, true, true, true, true, true, true, true, true, true, true, true, true, true, true, true, true, true, true, true, true] R7 _ mu7 HR7.out ?_ ?_
      · exact ⟨0, rfl, Nat.zero_le _, HL6.out⟩
      clear HL6
      intro us7 w7 hrel
      obtain ⟨i, h16, hi, hL⟩ := hrel
      simp only [frameOf, Nat.reduceAdd, h16]
      have Hh16 := hid h16; clear h16
      have HI7 := hid hi; have HL7 := hid hL
      clear hi hL
      by_cases hlt : i < l.length
      · have HLT := hid hlt
        have HWI : Hid (wrap64 ((i : Int) + 1) = ((i + 1 : Nat) : Int)) := hid (by have := HLB.out; unfold wrap64; omega)
        obtain ⟨b, o, hab, -, p1, p2⟩ := HEV5.out i hlt
        subst hab
        have HINB := hid (HM.out.inB (List.getElem_mem hlt))
        generalize l[i] = x at p1 p2 HINB
        obtain ⟨x1, x2⟩ := x
        simp only at p1 p2
        have HP := hid (And.intro p1 p2)
        replace p1 := HL7.out.cell p1
        replace p2 := HL7.out.cell p2
        go_upto_region 28 with (fail)
        refine wp_region_lex (by kernel_rfl) (by kernel_rfl) Later Later.refl Later.trans (fun _ => none) (fun _ _ _ _ _ h => by cases h) ?_
        simp only [numbered, Nat.reduceAdd]
        refine LexS.out ?_
        iterate 12
          first
          | (refine LexS.skip rfl ?_; simp only [Act.put, List.setIfInBounds_toArray, List.set])
          | (refine LexS.one' rfl rfl ?_
             apply Exists.intro
             refine ⟨fun w hR hF => ?_, ?_⟩
             · have hP := hR
               repeat (first | replace hP := Later.of_drew hP | replace hP := Later.of_drewN hP | replace hP := Later.of_alloc hP)
               have hcs := hR.cells
               have zp1 := hP.cell p1
               have zp2 := hP.cell p2
               clear hR hF hP
               go_simp
               first | done | rfl
             simp only [Act.put, List.setIfInBounds_toArray, List.set])
        refine LexS.nil ?_
        intro w8 hR8 hF9
        clear hF9
        repeat (first | replace hR8 := Later.of_drew hR8 | replace hR8 := Later.of_drewN hR8 | replace hR8 := Later.of_alloc hR8)
        have HL8 := hid (Later.trans _ _ _ HL7.out hR8)
        clear hR8 p1 p2 HL7
        go_wp2_with fail
        obtain ⟨R8, hR8⟩ : ∃ RR_ : (Nat → Value) → World → Prop, RR_ = (fun us wx => ∃ k : Nat, us 18 = .int .i64 k ∧ k ≤ O.length ∧ us 17 = .bool (inB (x1, x2) O k) ∧ Later w5 wx) := ⟨_, rfl⟩
        obtain ⟨mu8, hmu8⟩ : ∃ mu : (Nat → Value) → World → Nat, mu = (fun us _ => O.length - (intOf (us 18)).toNat) := ⟨_, rfl⟩
        have HR8 := hid hR8; have Hmu8 := hid hmu8; clear hR8 hmu8
        refine wp_loop_frame' [false, false, false, false, false, false, false, false, false, false, false, false, false, false, false, false, false, true, true, false, false, false, false, false, false, false, false, false, false, false, false, false, false, false, false, false, false, false, false, false, false, false, false, false, false, false, false, false, false, false, false, false, false, false, false, false, false, false, false, false, false, false, false, false, false, false, false, false, false, false, false, false, false, false, false, false, false, false, false, false, false, false, false, false, false, false, false, false, false, false, false, false, false, false, false, false, false, false, false, false, false, false, false, false, false, false, false, false, false, false, false, false, false, false, false, false, false, false, false, false, false, false, false, false, false, false, false, false, false, false, false, false, false, false, false, false, false, false, false, false, false, false, false, false, false, false, false, false, false, false, false, false, false, false, false, false, false, false, false, false, false, false, false, false, false, false, false, false, false, false, false, false, false, false, false, false, false, false, false, false, false, false, false, false, false, false, false, false, false, true, true, true, true, true, true, true, true, true, true, true, true, true, true, true, true, true, true, true, true, true, true, true, true, true, true, true, true, true, true, true, true, true] R8 _ mu8 HR8.out ?_ ?_
        · exact ⟨0, rfl, Nat.zero_le _, by rw [inB_zero]; rfl, HL8.out⟩
        clear HL8
        intro us8 w9 hrel
        obtain ⟨k, h18, hk, h17, hL⟩ := hrel
        simp only [frameOf, Nat.reduceAdd, h18, h17]
        have Hh18 := hid h18; clear h18
        have Hh17 := hid h17; clear h17
        have HK9 := hid hk; have HL9 := hid hL
        clear hk hL
        by_cases hko : k < O.length
        · have HKO := hid hko
          have HWK : Hid (wrap64 ((k : Int) + 1) = ((k + 1 : Nat) : Int)) := hid (by have := HOB.out; unfold wrap64; omega)
          have HSU := hid (inB_succ (x1, x2) hko)
          obtain ⟨b', o', hab, -, q1, q2⟩ := HE5.out k hko
          subst hab
          replace q1 := HL9.out.cell q1
          replace q2 := HL9.out.cell q2
          have p1 := HL9.out.cell HP.out.1
          have p2 := HL9.out.cell HP.out.2
          have hlo : k < O.length := hko
          generalize O[k] = y at q1 q2 HSU
          obtain ⟨y1, y2⟩ := y
          simp only at q1 q2
          cases hb : inB (x1, x2) O k with
          | true =>
            have HS2 : Hid (inB (x1, x2) O (k + 1) = true) := hid (by rw [HSU.out, hb]; rfl)
            clear hb
            go_upto_region 32 with (fail)
            refine wp_region_lex (by kernel_rfl) (by kernel_rfl) Later Later.refl Later.trans (fun _ => none) (fun _ _ _ _ _ h => by cases h) ?_
            simp only [numbered, Nat.reduceAdd]
            refine LexS.out ?_
            iterate 28
              first
              | (refine LexS.skip rfl ?_; simp only [Act.put, List.setIfInBounds_toArray, List.set])
              | (refine LexS.one' rfl rfl ?_
                 apply Exists.intro
                 refine ⟨fun w hR hF => ?_, ?_⟩
                 · have hP := hR
                   repeat (first | replace hP := Later.of_drew hP | replace hP := Later.of_drewN hP | replace hP := Later.of_alloc hP)
                   have hcs := hR.cells
                   have zp1 := hP.cell p1
                   have zp2 := hP.cell p2
                   have zq1 := hP.cell q1
                   have zq2 := hP.cell q2
                   clear hR hF hP
                   go_simp
                   first | done | rfl
                 simp only [Act.put, List.setIfInBounds_toArray, List.set])
            refine LexS.nil ?_
            intro w10 hR10 hF9
            clear hF9
            repeat (first | replace hR10 := Later.of_drew hR10 | replace hR10 := Later.of_drewN hR10 | replace hR10 := Later.of_alloc hR10)
            have HL10 := hid (Later.trans _ _ _ HL9.out hR10)
            clear hR10 p1 p2 q1 q2 HL9
            go_wp2_with fail
            try simp only [HWK.out]
            refine Round.mk' HR8.out Hmu8.out rfl ?_ ?_
            · exact ⟨k + 1, rfl, HKO.out, by rw [HS2.out]; rfl, HL10.out⟩
            · rw [Hh18.out]; have := HKO.out; simp [intOf, slots]; omega
          | false =>
            have HS2 : Hid (inB (x1, x2) O (k + 1) = (decide (y1 ≤ x1) && decide (x2 ≤ y2))) := hid (by rw [HSU.out, hb]; rfl)
            clear hb
            by_cases hyx : y1 ≤ x1
            all_goals
              have HYX := hid hyx
              go_upto_region 32 with (fail)
              refine wp_region_lex (by kernel_rfl) (by kernel_rfl) Later Later.refl Later.trans (fun _ => none) (fun _ _ _ _ _ h => by cases h) ?_
              simp only [numbered, Nat.reduceAdd]
              refine LexS.out ?_
              iterate 28
                first
                | (refine LexS.skip rfl ?_; simp only [Act.put, List.setIfInBounds_toArray, List.set])
                | (refine LexS.one' rfl rfl ?_
                   apply Exists.intro
                   refine ⟨fun w hR hF => ?_, ?_⟩
                   · have hP := hR
                     repeat (first | replace hP := Later.of_drew hP | replace hP := Later.of_drewN hP | replace hP := Later.of_alloc hP)
                     have hcs := hR.cells
                     have zp1 := hP.cell p1
                     have zp2 := hP.cell p2
                     have zq1 := hP.cell q1
                     have zq2 := hP.cell q2
                     clear hR hF hP
                     go_simp
                     first | done | rfl
                   simp only [Act.put, List.setIfInBounds_toArray, List.set])
              refine LexS.nil ?_
              intro w10 hR10 hF9
              clear hF9
              repeat (first | replace hR10 := Later.of_drew hR10 | replace hR10 := Later.of_drewN hR10 | replace hR10 := Later.of_alloc hR10)
              have HL10 := hid (Later.trans _ _ _ HL9.out hR10)
              clear hR10 p1 p2 q1 q2 HL9
              go_wp2_with fail
              try simp only [HWK.out]
              refine Round.mk' HR8.out Hmu8.out rfl ?_ ?_
              · exact ⟨k + 1, rfl, HKO.out, by rw [HS2.out]; first | (rw [decide_eq_true HYX.out]; rfl) | (rw [show decide (y1 ≤ x1) = false from decide_eq_false (by have := HYX.out; omega)]; rfl), HL10.out⟩
              · rw [Hh18.out]; have := HKO.out; simp [intOf, slots]; omega
        · have hke : k = O.length := by have := HK9.out; omega
          have hin := HINB.out
          rw [← hke] at hin
          clear hke
          rw [hin]
          go_wp2_with fail
          try simp only [HWI.out]
          refine Round.mk' HR7.out Hmu7.out rfl ?_ ?_
          · exact ⟨i + 1, rfl, HLT.out, HL9.out⟩
          · rw [Hh16.out]; have := HLT.out; simp [intOf, slots]; omega
      · go_wp2_with fail
        go_ret
        exact ⟨rfl, Later.trans _ _ _ HL5.out HL7.out⟩
end Go.Proofs.Ythfgjmdmcoogpaa
