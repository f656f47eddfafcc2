/-
  PROVED HERE: the contract of the document's reading of a value.
-/
import Derived.Test.YthfgjmdmcoogpaaDoorRefText
import Derived.Test.YthfgjmdmcoogpaaDoorReaderValue
import Derived.Test.YthfgjmdmcoogpaaDoorSource
namespace Go.Proofs.YthfgjmdmcoogpaaDoor
set_option linter.unusedSimpArgs false
set_option linter.unusedVariables false
open Go.RowKit

theorem InB.other {w : World} {X : Nat} {v : Value} {all : List UInt8} {n : Nat} {bad : Bool} (h : InB w X v all n bad) {p : Addr} (hp : X < p.block) (u : Value) : InB (w.setCell p u) X v all n bad := by
  have hk : Keeps (fun b => b ≤ X) w (w.setCell p u) := (Keeps.refl _ _).setCell (.inl (by omega)) _
  exact h.keep hk fun _ hb => hb
theorem InB.others {w : World} {X : Nat} {v : Value} {all : List UInt8} {n : Nat} {bad : Bool} (h : InB w X v all n bad) {T : Nat} (hp : X < T) (x y z : Value) : InB (((w.setCell ⟨T, 0, none⟩ x).setCell ⟨T, 1, none⟩ y).setCell ⟨T, 2, none⟩ z) X v all n bad := ((h.other hp x).other hp y).other hp z
/-- what 'value' comes to. -/
def RValTo (w : World) (X : Nat) (v : Value) (all : List UInt8) (n : Nat) (bad : Bool) (e : Ending) (w' : World) : Prop :=
  ∃ (x : Val) (m : Nat) (b : Bool), e = .returned x.v ∧ InB w' X v all m b ∧ Keeps (fun b => b ≠ X) w w' ∧ (bad = true → b = true) ∧
    (b = false → dVal (all.drop n) = some (x, all.drop m)) ∧ (b = true → bad = true ∨ dVal (all.drop n) = none)
theorem rval_no {w w' : World} {X n m : Nat} {v : Value} {all : List UInt8} {bad : Bool} {x : Val} {e : Ending} (hd : bad = true ∨ dVal (all.drop n) = none) (he : e = .returned x.v) (hi : InB w' X v all m true) (hk : Keeps (fun b => b ≠ X) w w') : RValTo w X v all n bad e w' :=
  ⟨x, m, true, he, hi, hk, fun _ => rfl, fun h => (by cases h), fun _ => hd⟩
theorem rval_yes {w w' : World} {X n m : Nat} {v : Value} {all : List UInt8} {x : Val} {e : Ending} (hd : dVal (all.drop n) = some (x, all.drop m)) (he : e = .returned x.v) (hi : InB w' X v all m false) (hk : Keeps (fun b => b ≠ X) w w') : RValTo w X v all n false e w' :=
  ⟨x, m, false, he, hi, hk, id, fun _ => hd, fun h => (by cases h)⟩

theorem rval_yes2 {w w' : World} {X n m : Nat} {v : Value} {all : List UInt8} {bad b : Bool} {x : Val} {e : Ending} (hb : bad = true → b = true) (hd : b = false → dVal (all.drop n) = some (x, all.drop m)) (he : e = .returned x.v) (hi : InB w' X v all m false) (hk : Keeps (fun b => b ≠ X) w w') (h : b = false) : RValTo w X v all n bad e w' :=
  ⟨x, m, false, he, hi, hk, fun h2 => by have := hb h2; rw [h] at this; exact this, fun _ => hd h, fun h => (by cases h)⟩
theorem val_bad {l r : List UInt8} {ch : UInt8} {c : Nat} {bad : Bool} (hl : l = ch :: r) (hc : c = ch.toNat) (h : bad = true ∨ dFill c r = none) : bad = true ∨ dVal l = none :=
  h.imp id fun h => by rw [hl]; simp only [dVal]; rw [← hc, h]
theorem val_not {l r r' : List UInt8} {ch : UInt8} {c : Nat} {x : Val} (hl : l = ch :: r) (hc : c = ch.toNat) (h : dFill c r = some (x, r')) (hv : validV x = false) : dVal l = none := by
  rw [hl]; simp only [dVal]; rw [← hc, h]; simp [hv]
theorem val_yes {l r r' : List UInt8} {ch : UInt8} {c : Nat} {x : Val} (hl : l = ch :: r) (hc : c = ch.toNat) (h : dFill c r = some (x, r')) (hv : validV x = true) : dVal l = some (x, r') := by
  rw [hl]; simp only [dVal]; rw [← hc, h]; simp [hv]

set_option maxRecDepth 100000 in
set_option maxHeartbeats 4000000 in
theorem ref_value (X : Nat) (v : Value) (all : List UInt8) (n : Nat) (bad : Bool) (w : World) (h : InB w X v all n bad) (hl : all.length ≤ 1099511627776) :
    Calls Tryd.prog 77 #[.pointer (some ⟨X, 0, none⟩)] w (RValTo w X v all n bad) := by
  obtain ⟨av, cv, rfl, hlc, hcm, -, hel⟩ := h.2.1
  have HI := hid h
  have HE := hid hel
  have HLL := hid hl
  have HLC := hid hlc
  have HXT := hid h.lt
  clear hel hlc hcm h hl
  go_enter Tryd.func77, Tryd.ntmps77
  go_wp2_with fail
  obtain ⟨T, hT⟩ : ∃ T, T = w.heap.size := ⟨_, rfl⟩
  have HTX : Hid (X < T) := hid (by rw [hT]; exact HXT.out)
  have HTS : Hid (w.heap.size ≤ T) := hid (Nat.le_of_eq hT.symm)
  obtain ⟨wa, hwa⟩ : ∃ wa, wa = w.alloc (.cells #[.int .i64 0, .int .i64 0, .string ⟨#[]⟩] 40 (0, 0)) := ⟨_, rfl⟩
  have HO : Hid (wa.heap[T]? = some (.cells #[.int .i64 0, .int .i64 0, .string ⟨#[]⟩] 40 (0, 0))) := hid (by rw [hwa, hT]; exact obj_new w _)
  have HIa := hid (HI.out.later (hwa ▸ Later.alloc w (.cells #[.int .i64 0, .int .i64 0, .string ⟨#[]⟩] 40 (0, 0))))
  have HKa : Hid (Keeps (fun b => b ≠ X) w wa) := hid (by rw [hwa]; exact (Later.alloc w _).keeps _)
  have HEa : Hid (Elems (fun b => b < X) ByteAt 1 wa av all) := hid (by obtain ⟨a9, c9, e9, -, -, -, hel9⟩ := HIa.out.2.1; simp only [Value.slice.injEq] at e9; obtain ⟨rfl, -, rfl⟩ := e9; exact hel9)
  rw [← hT, ← hwa]
  clear hT hwa HE
  have x0 := cell_obj (i := 0) HIa.out.1 (v := .slice av all.length cv) rfl
  have x1 := cell_obj (i := 1) HIa.out.1 (v := .int .i64 (n : Nat)) rfl
  have hnl := HIa.out.2.2
  by_cases hat : n = all.length
  · subst hat
    refine wp_region_lex (by kernel_rfl) (by kernel_rfl) Later Later.refl Later.trans (fun _ => none) (fun _ _ _ _ _ h => by cases h) ?_
    simp only [numbered, Nat.reduceAdd]
    refine LexS.out ?_
    iterate 10
      first
      | (refine LexS.skip rfl ?_; simp only [Act.put, List.setIfInBounds_toArray, List.set])
      | (refine LexS.one' rfl rfl ?_
         apply Exists.intro
         refine ⟨fun w hR hF => ?_, ?_⟩
         · have hP := hR
           repeat (first | replace hP := Later.of_drew hP | replace hP := Later.of_drewN hP | replace hP := Later.of_alloc hP)
           have hcs := hR.cells
           have zx0 := hP.cell x0
           have zx1 := hP.cell x1
           clear hR hF hP
           go_simp
           first | done | rfl
         simp only [Act.put, List.setIfInBounds_toArray, List.set])
    refine LexS.nil ?_
    intro w1 hR1 hF9
    clear hF9
    repeat (first | replace hR1 := Later.of_drew hR1 | replace hR1 := Later.of_drewN hR1 | replace hR1 := Later.of_alloc hR1)
    have HI2 := hid (HIa.out.later hR1)
    have HK2 := hid (HKa.out.more hR1)
    have HO2 := hid (hR1.obj HO.out)
    have n5 : T ≠ X := Nat.ne_of_gt HTX.out
    have n6 : X ≠ T := Nat.ne_of_lt HTX.out
    clear hR1 x0 x1
    have x2 := cell_obj (i := 2) HI2.out.1 (v := .bool bad) rfl
    have z2 := free_obj (i := 2) HI2.out.1
    have r0 := cell_obj (i := 0) HO2.out rfl
    have r1 := cell_obj (i := 1) HO2.out rfl
    have r2 := cell_obj (i := 2) HO2.out rfl
    have y0 := free_obj (i := 0) HO2.out
    have y1 := free_obj (i := 1) HO2.out
    have y2 := free_obj (i := 2) HO2.out
    go_wp2_with fail
    refine bodyPost_ret (v := zeroV.v) ?_ rfl (rval_no (.inr (by rw [List.drop_length]; rfl)) rfl ((HI2.out.put true).1.others HTX.out _ _ _) (keeps_others (HK2.out.trans (HI2.out.put true).2) HTS.out _ _ _))
    rw [results_cell2 (t := 2) (ty := 40) rfl]
    go_simp
    exact ⟨rfl, rfl, rfl⟩
  · have hlt : n < all.length := by omega
    have hlt' : ¬ all.length ≤ n := by omega
    obtain ⟨vb, vo, rfl, hvb, q0⟩ := byte_cell HEa.out hlt
    obtain ⟨ch, hch⟩ : ∃ ch, ch = all[n] := ⟨_, rfl⟩
    obtain ⟨c, hc⟩ : ∃ c, c = ch.toNat := ⟨_, rfl⟩
    have HD : Hid (all.drop n = ch :: all.drop (n + 1)) := hid (by rw [hch]; exact List.drop_eq_getElem_cons hlt)
    have HC := hid hc
    have hc8 : c < 256 := by rw [hc]; exact ch.toNat_lt
    rw [← hch] at q0
    clear hch
    rw [← hc] at q0
    clear hc hat hvb
    refine wp_region_lex (by kernel_rfl) (by kernel_rfl) Later Later.refl Later.trans (fun _ => none) (fun _ _ _ _ _ h => by cases h) ?_
    simp only [numbered, Nat.reduceAdd]
    refine LexS.out ?_
    iterate 10
      first
      | (refine LexS.skip rfl ?_; simp only [Act.put, List.setIfInBounds_toArray, List.set])
      | (refine LexS.one' rfl rfl ?_
         apply Exists.intro
         refine ⟨fun w hR hF => ?_, ?_⟩
         · have hP := hR
           repeat (first | replace hP := Later.of_drew hP | replace hP := Later.of_drewN hP | replace hP := Later.of_alloc hP)
           have hcs := hR.cells
           have zx0 := hP.cell x0
           have zx1 := hP.cell x1
           clear hR hF hP
           go_simp
           first | done | rfl
         simp only [Act.put, List.setIfInBounds_toArray, List.set])
    refine LexS.nil ?_
    intro w1 hR1 hF9
    clear hF9
    repeat (first | replace hR1 := Later.of_drew hR1 | replace hR1 := Later.of_drewN hR1 | replace hR1 := Later.of_alloc hR1)
    have HI2 := hid (HIa.out.later hR1)
    have HK2 := hid (HKa.out.more hR1)
    have HO2 := hid (hR1.obj HO.out)
    replace x0 := hR1.cell x0
    replace x1 := hR1.cell x1
    replace q0 := hR1.cell q0
    clear hR1
    go_wp2_with fail
    have hcw : IntKind.i64.wrap (c : Int) = (c : Int) := IntWalk.i64_in _ (by omega)
    refine wp_region_plan (by kernel_rfl) (by kernel_rfl) [] [13] (by kernel_rfl) (fun _ _ d _ _ h => by cases d <;> exact h) (Later) (Later.refl) (Later.trans) (kinds [(12, NewAt w1.heap.size #[.int .i64 0, .int .i64 0, .string ⟨#[]⟩] 40)]) (kinds_still (by simp only [List.mem_cons, List.not_mem_nil, or_false, forall_eq]; exact fun _ _ _ hR h => h.later hR)) ?_
    simp only [body, tail, numbered, Nat.reduceAdd, List.filter_cons, List.filter_nil, List.contains_cons, List.contains_nil, Nat.reduceBEq, Bool.or_false, Bool.or_true, Bool.false_or, Bool.true_or, Bool.not_true, Bool.not_false, Bool.and_true, Bool.and_false, Bool.true_and, Bool.false_and, if_true, if_false, reduceIte, Bool.false_eq_true, List.map_cons, List.map_nil]
    simp only [Pures]
    refine LexS.out ?_
    iterate 12
      first
      | (refine LexS.skip rfl ?_; simp only [Act.put, List.setIfInBounds_toArray, List.set])
      | (refine LexS.one' rfl rfl ?_
         apply Exists.intro
         refine ⟨fun w hR hF => ?_, ?_⟩
         · have hP := hR
           repeat (first | replace hP := Later.of_drew hP | replace hP := Later.of_drewN hP | replace hP := Later.of_alloc hP)
           have hcs := hR.cells
           have zx0 := hP.cell x0
           have zx1 := hP.cell x1
           have zq0 := hP.cell q0
           clear hR hF hP
           go_simp
           first | done | rfl
         simp only [Act.put, List.setIfInBounds_toArray, List.set])
    refine LexS.any rfl rfl (fun w hR hF => ?_) ?_
    · have hP := hR
      repeat (first | replace hP := Later.of_drew hP | replace hP := Later.of_drewN hP | replace hP := Later.of_alloc hP)
      have hsz := hP.size
      clear hF hR hP x0 x1 q0
      unfold Runs
      go_simp
      exact yield_value (Later.alloc _ _) ⟨_, rfl, obj_new _ _, hsz⟩
    rintro vk_ ⟨wk_, hRk_, hFk_⟩
    obtain ⟨b5, rfl, -⟩ := hFk_ _ List.mem_cons_self _ rfl
    clear hFk_ hRk_ wk_
    simp only [Act.put, List.setIfInBounds_toArray, List.set]
    refine LexS.nil ?_
    intro w2 hR2 hF2
    obtain ⟨b6, h6, hn2, hbs⟩ := hF2 _ List.mem_cons_self _ rfl
    simp only [Value.pointer.injEq, Option.some.injEq, Addr.mk.injEq] at h6
    obtain ⟨rfl, -, -⟩ := h6
    clear hF2
    repeat (first | replace hR2 := Later.of_drew hR2 | replace hR2 := Later.of_drewN hR2 | replace hR2 := Later.of_alloc hR2)
    have hT1 := (Array.getElem?_eq_some_iff.1 HO2.out).1
    have HI3 := hid (HI2.out.later hR2)
    have HK3 := hid (HK2.out.more hR2)
    have HO3 := hid (hR2.obj HO2.out)
    have HX3 := hid hn2
    have HBW : Hid (w.heap.size ≤ b5) := hid (by have := HTS.out; omega)
    have n1 : b5 ≠ X := by have := HTX.out; omega
    have n2 : X ≠ b5 := by have := HTX.out; omega
    have n3 : T ≠ b5 := by omega
    have n4 : b5 ≠ T := by omega
    have n5 : T ≠ X := Nat.ne_of_gt HTX.out
    have n6 : X ≠ T := Nat.ne_of_lt HTX.out
    have HXB : Hid (X < b5) := hid (by have := HTX.out; omega)
    have q0 := cell_obj (i := 0) HX3.out rfl
    have q1 := cell_obj (i := 1) HX3.out rfl
    have q2 := cell_obj (i := 2) HX3.out rfl
    have p0 := free_obj (i := 0) HX3.out
    have p1 := free_obj (i := 1) HX3.out
    have p2 := free_obj (i := 2) HX3.out
    clear hn2 hbs hR2 hT1 x0 x1 hlt hlt' hnl
    go_upto_region 5 with (fail)
    clear q0 q1 q2 p0 p1 p2
    obtain ⟨w3, hw3⟩ : ∃ w3, w3 = ((w2.setCell ⟨b5, 0, none⟩ (.int .i64 c)).setCell ⟨b5, 1, none⟩ (.int .i64 0)).setCell ⟨b5, 2, none⟩ (.string ⟨#[]⟩) := ⟨_, rfl⟩
    have HI4 : Hid (InB w3 X (.slice (some ⟨vb, vo, none⟩) all.length cv) all n bad) := hid (by rw [hw3]; exact HI3.out.others HXB.out _ _ _)
    have HK4 : Hid (Keeps (fun b => b ≠ X) w w3) := hid (by rw [hw3]; exact keeps_others HK3.out HBW.out _ _ _)
    have HO4 : Hid (w3.heap[T]? = some (.cells #[.int .i64 0, .int .i64 0, .string ⟨#[]⟩] 40 (0, 0))) := hid (by rw [hw3]; exact ((((Keeps.refl (fun b => b ≠ b5) w2).setCell (p := ⟨b5, 0, none⟩) (.inl (by simp)) _).setCell (p := ⟨b5, 1, none⟩) (.inl (by simp)) _).setCell (p := ⟨b5, 2, none⟩) (.inl (by simp)) _).obj n3 HO3.out)
    have HX4 : Hid (w3.heap[b5]? = some (.cells #[.int .i64 c, .int .i64 0, .string ⟨#[]⟩] 40 (0, 0))) := hid (by rw [hw3]; exact obj_setCell (i := 2) (obj_setCell (i := 1) (obj_setCell (i := 0) HX3.out _) _) _)
    rw [← hw3]
    clear hw3 HX3 HO3 HI3 HK3 HI2 HK2 HO2
    have x1 := cell_obj (i := 1) HI4.out.1 (v := .int .i64 (n : Nat)) rfl
    have z1 := free_obj (i := 1) HI4.out.1
    have hw1 : wrap64 ((n : Int) + 1) = ((n + 1 : Nat) : Int) := by have := HLL.out; have := HI4.out.2.2; unfold wrap64; omega
    go_upto_region 6 with (fail)
    clear hw1 x1 z1
    have hn2 : ((n : Int) + 1) = ((n + 1 : Nat) : Int) := by omega
    rw [hn2]
    clear hn2
    have hn1 : n + 1 ≤ all.length := by have := congrArg List.length HD.out; simp only [List.length_drop, List.length_cons] at this; omega
    obtain ⟨w4, hw4⟩ : ∃ w4, w4 = w3.setCell ⟨X, 1, none⟩ (.int .i64 (n + 1 : Nat)) := ⟨_, rfl⟩
    have HI5 : Hid (InB w4 X (.slice (some ⟨vb, vo, none⟩) all.length cv) all (n + 1) bad) := hid (by rw [hw4]; exact (HI4.out.move (n + 1) hn1).1)
    have hk4 : Keeps (fun b => b ≠ X) w3 w4 := by rw [hw4]; exact (HI4.out.move (n + 1) hn1).2
    have HK5 := hid (HK4.out.trans hk4)
    have HO5 := hid (hk4.obj n5 HO4.out)
    have HX5 := hid (hk4.obj n1 HX4.out)
    rw [← hw4]
    clear hw4 hk4 HI4 HK4 HO4 HX4 hn1
    obtain ⟨P, hP1⟩ : ∃ P, P = n + 1 := ⟨_, rfl⟩
    rw [← hP1] at HI5 HD
    clear hP1
    have q0 := cell_obj (i := 0) HX5.out rfl
    by_cases hm1 : c = 1
    · subst hm1
      go_wp2_with fail
      clear q0
      refine (ref_number X _ all P bad _ HI5.out HLL.out).mono ?_
      rintro e w5 ⟨k, m, b1, rfl, hi6, hk6, hr6, hbb, hy, hno⟩
      have HF : Hid ((b1 = false → dFill ((1 : Nat) : Int) (all.drop P) = some (⟨1, k, ⟨#[]⟩⟩, all.drop m)) ∧ (b1 = true → bad = true ∨ dFill ((1 : Nat) : Int) (all.drop P) = none)) := hid ⟨fun h => by simp [dFill, hy h], fun h => (hno h).imp id fun h => by simp [dFill, h]⟩
      have HBB := hid hbb
      have HI6 := hid hi6
      have HO6 := hid (hk6.obj n5 HO5.out)
      have HX6 := hid (hk6.obj n1 HX5.out)
      have HK6 := hid (HK5.out.trans hk6)
      clear hy hno hbb hi6 hk6 hr6
      have q1 := cell_obj (i := 1) HX6.out rfl
      have p1 := free_obj (i := 1) HX6.out
      go_upto_region 12 with (fail)
      clear q1 p1
      obtain ⟨w6, hw6⟩ : ∃ w6, w6 = w5.setCell ⟨b5, 1, none⟩ (.int .i64 k) := ⟨_, rfl⟩
      have HI8 : Hid (InB w6 X (.slice (some ⟨vb, vo, none⟩) all.length cv) all m b1) := hid (by rw [hw6]; exact HI6.out.other HXB.out _)
      have HK8 : Hid (Keeps (fun b => b ≠ X) w w6) := hid (by rw [hw6]; exact HK6.out.setCell (.inr HBW.out) _)
      have HO8 := hid ((keeps_other (p := ⟨b5, 1, none⟩) w5 (.int .i64 k)).obj n3 HO6.out)
      have HX8 := hid (obj_setCell (i := 1) HX6.out (.int .i64 k))
      simp only [List.setIfInBounds_toArray, List.set] at HX8
      rw [← hw6] at HO8 HX8 ⊢
      clear hw6 HI6 HK6 HO6 HX6
      have q0 := cell_obj (i := 0) HX8.out rfl
      have q1 := cell_obj (i := 1) HX8.out rfl
      have q2 := cell_obj (i := 2) HX8.out rfl
      go_wp2_with fail
      refine (rvalid_any ⟨1, k, ⟨#[]⟩⟩ _).mono ?_
      rintro e w7 ⟨rfl, hL7⟩
      clear q0 q1 q2
      have HI7 := hid (HI8.out.later hL7)
      have HO7 := hid (hL7.obj HO8.out)
      have HX7 := hid (hL7.obj HX8.out)
      have HK7 := hid (HK8.out.more hL7)
      clear hL7
      cases b1 with
      | true =>
        have HV := hid (val_bad HD.out HC.out (HF.out.2 rfl))
        have r0 := cell_obj (i := 0) HO7.out rfl
        have r1 := cell_obj (i := 1) HO7.out rfl
        have r2 := cell_obj (i := 2) HO7.out rfl
        have y0 := free_obj (i := 0) HO7.out
        have y1 := free_obj (i := 1) HO7.out
        have y2 := free_obj (i := 2) HO7.out
        have q0 := cell_obj (i := 0) HX7.out rfl
        have q1 := cell_obj (i := 1) HX7.out rfl
        have q2 := cell_obj (i := 2) HX7.out rfl
        have x2 := cell_obj (i := 2) HI7.out.1 (v := .bool true) rfl
        have z2 := free_obj (i := 2) HI7.out.1
        go_wp2_with fail
        refine bodyPost_ret (v := (⟨1, k, ⟨#[]⟩⟩ : Val).v) ?_ rfl (rval_no HV.out rfl ((HI7.out.put true).1.others HTX.out _ _ _) (keeps_others (HK7.out.trans (HI7.out.put true).2) HTS.out _ _ _))
        rw [results_cell2 (t := 2) (ty := 40) rfl]
        go_simp
        try exact ⟨rfl, rfl, rfl⟩
      | false =>
        cases hv : validV ⟨1, k, ⟨#[]⟩⟩ with
        | false =>
          have HV := hid (val_not HD.out HC.out (HF.out.1 rfl) hv)
          clear hv
          have r0 := cell_obj (i := 0) HO7.out rfl
          have r1 := cell_obj (i := 1) HO7.out rfl
          have r2 := cell_obj (i := 2) HO7.out rfl
          have y0 := free_obj (i := 0) HO7.out
          have y1 := free_obj (i := 1) HO7.out
          have y2 := free_obj (i := 2) HO7.out
          have q0 := cell_obj (i := 0) HX7.out rfl
          have q1 := cell_obj (i := 1) HX7.out rfl
          have q2 := cell_obj (i := 2) HX7.out rfl
          have x2 := cell_obj (i := 2) HI7.out.1 (v := .bool false) rfl
          have z2 := free_obj (i := 2) HI7.out.1
          go_wp2_with fail
          refine bodyPost_ret (v := (⟨1, k, ⟨#[]⟩⟩ : Val).v) ?_ rfl (rval_no (.inr HV.out) rfl ((HI7.out.put true).1.others HTX.out _ _ _) (keeps_others (HK7.out.trans (HI7.out.put true).2) HTS.out _ _ _))
          rw [results_cell2 (t := 2) (ty := 40) rfl]
          go_simp
          try exact ⟨rfl, rfl, rfl⟩
        | true =>
          have HV := hid (val_yes HD.out HC.out (HF.out.1 rfl) hv)
          clear hv
          have r0 := cell_obj (i := 0) HO7.out rfl
          have r1 := cell_obj (i := 1) HO7.out rfl
          have r2 := cell_obj (i := 2) HO7.out rfl
          have y0 := free_obj (i := 0) HO7.out
          have y1 := free_obj (i := 1) HO7.out
          have y2 := free_obj (i := 2) HO7.out
          have q0 := cell_obj (i := 0) HX7.out rfl
          have q1 := cell_obj (i := 1) HX7.out rfl
          have q2 := cell_obj (i := 2) HX7.out rfl
          have x2 := cell_obj (i := 2) HI7.out.1 (v := .bool false) rfl
          have z2 := free_obj (i := 2) HI7.out.1
          go_wp2_with fail
          refine bodyPost_ret (v := (⟨1, k, ⟨#[]⟩⟩ : Val).v) ?_ rfl (rval_yes2 HBB.out (fun _ => HV.out) rfl ((HI7.out.put false).1.others HTX.out _ _ _) (keeps_others (HK7.out.trans (HI7.out.put false).2) HTS.out _ _ _) rfl)
          rw [results_cell2 (t := 2) (ty := 40) rfl]
          go_simp
          try exact ⟨rfl, rfl, rfl⟩
    by_cases hm2 : c = 2
    · subst hm2
      go_wp2_with fail
      clear q0
      refine (ref_number X _ all P bad _ HI5.out HLL.out).mono ?_
      rintro e w5 ⟨k, m, b1, rfl, hi6, hk6, hr6, hbb, hy, hno⟩
      have HF : Hid ((b1 = false → dFill ((2 : Nat) : Int) (all.drop P) = some (⟨2, k, ⟨#[]⟩⟩, all.drop m)) ∧ (b1 = true → bad = true ∨ dFill ((2 : Nat) : Int) (all.drop P) = none)) := hid ⟨fun h => by simp [dFill, hy h], fun h => (hno h).imp id fun h => by simp [dFill, h]⟩
      have HBB := hid hbb
      have HI6 := hid hi6
      have HO6 := hid (hk6.obj n5 HO5.out)
      have HX6 := hid (hk6.obj n1 HX5.out)
      have HK6 := hid (HK5.out.trans hk6)
      clear hy hno hbb hi6 hk6 hr6
      have q1 := cell_obj (i := 1) HX6.out rfl
      have p1 := free_obj (i := 1) HX6.out
      go_upto_region 12 with (fail)
      clear q1 p1
      obtain ⟨w6, hw6⟩ : ∃ w6, w6 = w5.setCell ⟨b5, 1, none⟩ (.int .i64 k) := ⟨_, rfl⟩
      have HI8 : Hid (InB w6 X (.slice (some ⟨vb, vo, none⟩) all.length cv) all m b1) := hid (by rw [hw6]; exact HI6.out.other HXB.out _)
      have HK8 : Hid (Keeps (fun b => b ≠ X) w w6) := hid (by rw [hw6]; exact HK6.out.setCell (.inr HBW.out) _)
      have HO8 := hid ((keeps_other (p := ⟨b5, 1, none⟩) w5 (.int .i64 k)).obj n3 HO6.out)
      have HX8 := hid (obj_setCell (i := 1) HX6.out (.int .i64 k))
      simp only [List.setIfInBounds_toArray, List.set] at HX8
      rw [← hw6] at HO8 HX8 ⊢
      clear hw6 HI6 HK6 HO6 HX6
      have q0 := cell_obj (i := 0) HX8.out rfl
      have q1 := cell_obj (i := 1) HX8.out rfl
      have q2 := cell_obj (i := 2) HX8.out rfl
      go_wp2_with fail
      refine (rvalid_any ⟨2, k, ⟨#[]⟩⟩ _).mono ?_
      rintro e w7 ⟨rfl, hL7⟩
      clear q0 q1 q2
      have HI7 := hid (HI8.out.later hL7)
      have HO7 := hid (hL7.obj HO8.out)
      have HX7 := hid (hL7.obj HX8.out)
      have HK7 := hid (HK8.out.more hL7)
      clear hL7
      cases b1 with
      | true =>
        have HV := hid (val_bad HD.out HC.out (HF.out.2 rfl))
        have r0 := cell_obj (i := 0) HO7.out rfl
        have r1 := cell_obj (i := 1) HO7.out rfl
        have r2 := cell_obj (i := 2) HO7.out rfl
        have y0 := free_obj (i := 0) HO7.out
        have y1 := free_obj (i := 1) HO7.out
        have y2 := free_obj (i := 2) HO7.out
        have q0 := cell_obj (i := 0) HX7.out rfl
        have q1 := cell_obj (i := 1) HX7.out rfl
        have q2 := cell_obj (i := 2) HX7.out rfl
        have x2 := cell_obj (i := 2) HI7.out.1 (v := .bool true) rfl
        have z2 := free_obj (i := 2) HI7.out.1
        go_wp2_with fail
        refine bodyPost_ret (v := (⟨2, k, ⟨#[]⟩⟩ : Val).v) ?_ rfl (rval_no HV.out rfl ((HI7.out.put true).1.others HTX.out _ _ _) (keeps_others (HK7.out.trans (HI7.out.put true).2) HTS.out _ _ _))
        rw [results_cell2 (t := 2) (ty := 40) rfl]
        go_simp
        try exact ⟨rfl, rfl, rfl⟩
      | false =>
        cases hv : validV ⟨2, k, ⟨#[]⟩⟩ with
        | false =>
          have HV := hid (val_not HD.out HC.out (HF.out.1 rfl) hv)
          clear hv
          have r0 := cell_obj (i := 0) HO7.out rfl
          have r1 := cell_obj (i := 1) HO7.out rfl
          have r2 := cell_obj (i := 2) HO7.out rfl
          have y0 := free_obj (i := 0) HO7.out
          have y1 := free_obj (i := 1) HO7.out
          have y2 := free_obj (i := 2) HO7.out
          have q0 := cell_obj (i := 0) HX7.out rfl
          have q1 := cell_obj (i := 1) HX7.out rfl
          have q2 := cell_obj (i := 2) HX7.out rfl
          have x2 := cell_obj (i := 2) HI7.out.1 (v := .bool false) rfl
          have z2 := free_obj (i := 2) HI7.out.1
          go_wp2_with fail
          refine bodyPost_ret (v := (⟨2, k, ⟨#[]⟩⟩ : Val).v) ?_ rfl (rval_no (.inr HV.out) rfl ((HI7.out.put true).1.others HTX.out _ _ _) (keeps_others (HK7.out.trans (HI7.out.put true).2) HTS.out _ _ _))
          rw [results_cell2 (t := 2) (ty := 40) rfl]
          go_simp
          try exact ⟨rfl, rfl, rfl⟩
        | true =>
          have HV := hid (val_yes HD.out HC.out (HF.out.1 rfl) hv)
          clear hv
          have r0 := cell_obj (i := 0) HO7.out rfl
          have r1 := cell_obj (i := 1) HO7.out rfl
          have r2 := cell_obj (i := 2) HO7.out rfl
          have y0 := free_obj (i := 0) HO7.out
          have y1 := free_obj (i := 1) HO7.out
          have y2 := free_obj (i := 2) HO7.out
          have q0 := cell_obj (i := 0) HX7.out rfl
          have q1 := cell_obj (i := 1) HX7.out rfl
          have q2 := cell_obj (i := 2) HX7.out rfl
          have x2 := cell_obj (i := 2) HI7.out.1 (v := .bool false) rfl
          have z2 := free_obj (i := 2) HI7.out.1
          go_wp2_with fail
          refine bodyPost_ret (v := (⟨2, k, ⟨#[]⟩⟩ : Val).v) ?_ rfl (rval_yes2 HBB.out (fun _ => HV.out) rfl ((HI7.out.put false).1.others HTX.out _ _ _) (keeps_others (HK7.out.trans (HI7.out.put false).2) HTS.out _ _ _) rfl)
          rw [results_cell2 (t := 2) (ty := 40) rfl]
          go_simp
          try exact ⟨rfl, rfl, rfl⟩
    by_cases hm3 : c = 3
    · subst hm3
      go_wp2_with fail
      clear q0
      refine (ref_text X _ all P bad _ HI5.out HLL.out).mono ?_
      rintro e w5 ⟨k, m, b1, rfl, hi6, hk6, hbb, hy, hno⟩
      have HF : Hid ((b1 = false → dFill ((3 : Nat) : Int) (all.drop P) = some (⟨3, 0, k⟩, all.drop m)) ∧ (b1 = true → bad = true ∨ dFill ((3 : Nat) : Int) (all.drop P) = none)) := hid ⟨fun h => by simp [dFill, hy h], fun h => (hno h).imp id fun h => by simp [dFill, h]⟩
      have HBB := hid hbb
      have HI6 := hid hi6
      have HO6 := hid (hk6.obj n5 HO5.out)
      have HX6 := hid (hk6.obj n1 HX5.out)
      have HK6 := hid (HK5.out.trans hk6)
      clear hy hno hbb hi6 hk6
      have q2 := cell_obj (i := 2) HX6.out rfl
      have p2 := free_obj (i := 2) HX6.out
      go_upto_region 12 with (fail)
      clear q2 p2
      obtain ⟨w6, hw6⟩ : ∃ w6, w6 = w5.setCell ⟨b5, 2, none⟩ (.string k) := ⟨_, rfl⟩
      have HI8 : Hid (InB w6 X (.slice (some ⟨vb, vo, none⟩) all.length cv) all m b1) := hid (by rw [hw6]; exact HI6.out.other HXB.out _)
      have HK8 : Hid (Keeps (fun b => b ≠ X) w w6) := hid (by rw [hw6]; exact HK6.out.setCell (.inr HBW.out) _)
      have HO8 := hid ((keeps_other (p := ⟨b5, 2, none⟩) w5 (.string k)).obj n3 HO6.out)
      have HX8 := hid (obj_setCell (i := 2) HX6.out (.string k))
      simp only [List.setIfInBounds_toArray, List.set] at HX8
      rw [← hw6] at HO8 HX8 ⊢
      clear hw6 HI6 HK6 HO6 HX6
      have q0 := cell_obj (i := 0) HX8.out rfl
      have q1 := cell_obj (i := 1) HX8.out rfl
      have q2 := cell_obj (i := 2) HX8.out rfl
      go_wp2_with fail
      refine (rvalid_any ⟨3, 0, k⟩ _).mono ?_
      rintro e w7 ⟨rfl, hL7⟩
      clear q0 q1 q2
      have HI7 := hid (HI8.out.later hL7)
      have HO7 := hid (hL7.obj HO8.out)
      have HX7 := hid (hL7.obj HX8.out)
      have HK7 := hid (HK8.out.more hL7)
      clear hL7
      cases b1 with
      | true =>
        have HV := hid (val_bad HD.out HC.out (HF.out.2 rfl))
        have r0 := cell_obj (i := 0) HO7.out rfl
        have r1 := cell_obj (i := 1) HO7.out rfl
        have r2 := cell_obj (i := 2) HO7.out rfl
        have y0 := free_obj (i := 0) HO7.out
        have y1 := free_obj (i := 1) HO7.out
        have y2 := free_obj (i := 2) HO7.out
        have q0 := cell_obj (i := 0) HX7.out rfl
        have q1 := cell_obj (i := 1) HX7.out rfl
        have q2 := cell_obj (i := 2) HX7.out rfl
        have x2 := cell_obj (i := 2) HI7.out.1 (v := .bool true) rfl
        have z2 := free_obj (i := 2) HI7.out.1
        go_wp2_with fail
        refine bodyPost_ret (v := (⟨3, 0, k⟩ : Val).v) ?_ rfl (rval_no HV.out rfl ((HI7.out.put true).1.others HTX.out _ _ _) (keeps_others (HK7.out.trans (HI7.out.put true).2) HTS.out _ _ _))
        rw [results_cell2 (t := 2) (ty := 40) rfl]
        go_simp
        try exact ⟨rfl, rfl, rfl⟩
      | false =>
        cases hv : validV ⟨3, 0, k⟩ with
        | false =>
          have HV := hid (val_not HD.out HC.out (HF.out.1 rfl) hv)
          clear hv
          have r0 := cell_obj (i := 0) HO7.out rfl
          have r1 := cell_obj (i := 1) HO7.out rfl
          have r2 := cell_obj (i := 2) HO7.out rfl
          have y0 := free_obj (i := 0) HO7.out
          have y1 := free_obj (i := 1) HO7.out
          have y2 := free_obj (i := 2) HO7.out
          have q0 := cell_obj (i := 0) HX7.out rfl
          have q1 := cell_obj (i := 1) HX7.out rfl
          have q2 := cell_obj (i := 2) HX7.out rfl
          have x2 := cell_obj (i := 2) HI7.out.1 (v := .bool false) rfl
          have z2 := free_obj (i := 2) HI7.out.1
          go_wp2_with fail
          refine bodyPost_ret (v := (⟨3, 0, k⟩ : Val).v) ?_ rfl (rval_no (.inr HV.out) rfl ((HI7.out.put true).1.others HTX.out _ _ _) (keeps_others (HK7.out.trans (HI7.out.put true).2) HTS.out _ _ _))
          rw [results_cell2 (t := 2) (ty := 40) rfl]
          go_simp
          try exact ⟨rfl, rfl, rfl⟩
        | true =>
          have HV := hid (val_yes HD.out HC.out (HF.out.1 rfl) hv)
          clear hv
          have r0 := cell_obj (i := 0) HO7.out rfl
          have r1 := cell_obj (i := 1) HO7.out rfl
          have r2 := cell_obj (i := 2) HO7.out rfl
          have y0 := free_obj (i := 0) HO7.out
          have y1 := free_obj (i := 1) HO7.out
          have y2 := free_obj (i := 2) HO7.out
          have q0 := cell_obj (i := 0) HX7.out rfl
          have q1 := cell_obj (i := 1) HX7.out rfl
          have q2 := cell_obj (i := 2) HX7.out rfl
          have x2 := cell_obj (i := 2) HI7.out.1 (v := .bool false) rfl
          have z2 := free_obj (i := 2) HI7.out.1
          go_wp2_with fail
          refine bodyPost_ret (v := (⟨3, 0, k⟩ : Val).v) ?_ rfl (rval_yes2 HBB.out (fun _ => HV.out) rfl ((HI7.out.put false).1.others HTX.out _ _ _) (keeps_others (HK7.out.trans (HI7.out.put false).2) HTS.out _ _ _) rfl)
          rw [results_cell2 (t := 2) (ty := 40) rfl]
          go_simp
          try exact ⟨rfl, rfl, rfl⟩
    have h1' : ¬ (c : Int) = 1 := by omega
    have h2' : ¬ (c : Int) = 2 := by omega
    have h3' : ¬ (c : Int) = 3 := by omega
    have HF : Hid ((bad = false → dFill (c : Int) (all.drop P) = some (⟨c, 0, ⟨#[]⟩⟩, all.drop P)) ∧ (bad = true → bad = true ∨ dFill (c : Int) (all.drop P) = none)) := hid ⟨fun _ => by unfold dFill; rw [if_neg (by omega), if_neg (by omega)], fun h => .inl h⟩
    clear hm1 hm2 hm3
    go_upto_region 12 with (fail)
    clear q0
    have q0 := cell_obj (i := 0) HX5.out rfl
    have q1 := cell_obj (i := 1) HX5.out rfl
    have q2 := cell_obj (i := 2) HX5.out rfl
    go_wp2_with fail
    refine (rvalid_any ⟨c, 0, ⟨#[]⟩⟩ _).mono ?_
    rintro e w7 ⟨rfl, hL7⟩
    clear q0 q1 q2
    have HI7 := hid (HI5.out.later hL7)
    have HO7 := hid (hL7.obj HO5.out)
    have HX7 := hid (hL7.obj HX5.out)
    have HK7 := hid (HK5.out.more hL7)
    clear hL7
    cases bad with
    | true =>
      have HV := hid (val_bad HD.out HC.out (HF.out.2 rfl))
      have r0 := cell_obj (i := 0) HO7.out rfl
      have r1 := cell_obj (i := 1) HO7.out rfl
      have r2 := cell_obj (i := 2) HO7.out rfl
      have y0 := free_obj (i := 0) HO7.out
      have y1 := free_obj (i := 1) HO7.out
      have y2 := free_obj (i := 2) HO7.out
      have q0 := cell_obj (i := 0) HX7.out rfl
      have q1 := cell_obj (i := 1) HX7.out rfl
      have q2 := cell_obj (i := 2) HX7.out rfl
      have x2 := cell_obj (i := 2) HI7.out.1 (v := .bool true) rfl
      have z2 := free_obj (i := 2) HI7.out.1
      go_wp2_with fail
      refine bodyPost_ret (v := (⟨c, 0, ⟨#[]⟩⟩ : Val).v) ?_ rfl (rval_no (.inl rfl) rfl ((HI7.out.put true).1.others HTX.out _ _ _) (keeps_others (HK7.out.trans (HI7.out.put true).2) HTS.out _ _ _))
      rw [results_cell2 (t := 2) (ty := 40) rfl]
      go_simp
      try exact ⟨rfl, rfl, rfl⟩
    | false =>
      cases hv : validV ⟨c, 0, ⟨#[]⟩⟩ with
      | false =>
        have HV := hid (val_not HD.out HC.out (HF.out.1 rfl) hv)
        clear hv
        have r0 := cell_obj (i := 0) HO7.out rfl
        have r1 := cell_obj (i := 1) HO7.out rfl
        have r2 := cell_obj (i := 2) HO7.out rfl
        have y0 := free_obj (i := 0) HO7.out
        have y1 := free_obj (i := 1) HO7.out
        have y2 := free_obj (i := 2) HO7.out
        have q0 := cell_obj (i := 0) HX7.out rfl
        have q1 := cell_obj (i := 1) HX7.out rfl
        have q2 := cell_obj (i := 2) HX7.out rfl
        have x2 := cell_obj (i := 2) HI7.out.1 (v := .bool false) rfl
        have z2 := free_obj (i := 2) HI7.out.1
        go_wp2_with fail
        refine bodyPost_ret (v := (⟨c, 0, ⟨#[]⟩⟩ : Val).v) ?_ rfl (rval_no (.inr HV.out) rfl ((HI7.out.put true).1.others HTX.out _ _ _) (keeps_others (HK7.out.trans (HI7.out.put true).2) HTS.out _ _ _))
        rw [results_cell2 (t := 2) (ty := 40) rfl]
        go_simp
        try exact ⟨rfl, rfl, rfl⟩
      | true =>
        have HV := hid (val_yes HD.out HC.out (HF.out.1 rfl) hv)
        clear hv
        have r0 := cell_obj (i := 0) HO7.out rfl
        have r1 := cell_obj (i := 1) HO7.out rfl
        have r2 := cell_obj (i := 2) HO7.out rfl
        have y0 := free_obj (i := 0) HO7.out
        have y1 := free_obj (i := 1) HO7.out
        have y2 := free_obj (i := 2) HO7.out
        have q0 := cell_obj (i := 0) HX7.out rfl
        have q1 := cell_obj (i := 1) HX7.out rfl
        have q2 := cell_obj (i := 2) HX7.out rfl
        have x2 := cell_obj (i := 2) HI7.out.1 (v := .bool false) rfl
        have z2 := free_obj (i := 2) HI7.out.1
        go_wp2_with fail
        refine bodyPost_ret (v := (⟨c, 0, ⟨#[]⟩⟩ : Val).v) ?_ rfl (rval_yes HV.out rfl ((HI7.out.put false).1.others HTX.out _ _ _) (keeps_others (HK7.out.trans (HI7.out.put false).2) HTS.out _ _ _))
        rw [results_cell2 (t := 2) (ty := 40) rfl]
        go_simp
        try exact ⟨rfl, rfl, rfl⟩
end Go.Proofs.YthfgjmdmcoogpaaDoor
