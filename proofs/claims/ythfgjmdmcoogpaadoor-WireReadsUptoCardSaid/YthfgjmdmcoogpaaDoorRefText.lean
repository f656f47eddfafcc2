/-
  PROVED HERE: the contract of the document's reading of a text.
-/
import Derived.Test.YthfgjmdmcoogpaaDoorRefIn
import Derived.Test.YthfgjmdmcoogpaaDoorReaderVal
namespace Go.Proofs.YthfgjmdmcoogpaaDoor
set_option linter.unusedSimpArgs false
set_option linter.unusedVariables false
open Go.RowKit

/-- what 'text' comes to. -/
def RTextTo (w : World) (X : Nat) (v : Value) (all : List UInt8) (n : Nat) (bad : Bool) (e : Ending) (w' : World) : Prop :=
  ∃ t m b, e = .returned (.string t) ∧ InB w' X v all m b ∧ Keeps (fun b => b ≠ X) w w' ∧ (bad = true → b = true) ∧
    (b = false → dText (all.drop n) = some (t, all.drop m)) ∧ (b = true → bad = true ∨ dText (all.drop n) = none)
theorem text_no {w w' : World} {X n m : Nat} {v : Value} {all : List UInt8} {bad : Bool} {e : Ending} (hd : bad = true ∨ dText (all.drop n) = none) (he : e = .returned (.string ⟨#[]⟩)) (hi : InB w' X v all m true) (hk : Keeps (fun b => b ≠ X) w w') : RTextTo w X v all n bad e w' :=
  ⟨⟨#[]⟩, m, true, he, hi, hk, fun _ => rfl, fun h => (by cases h), fun _ => hd⟩
theorem text_yes {w w' : World} {X n m : Nat} {v : Value} {all : List UInt8} {t : ByteArray} {e : Ending} (hd : dText (all.drop n) = some (t, all.drop m)) (he : e = .returned (.string t)) (hi : InB w' X v all m false) (hk : Keeps (fun b => b ≠ X) w w') : RTextTo w X v all n false e w' :=
  ⟨t, m, false, he, hi, hk, id, fun _ => hd, fun h => (by cases h)⟩

theorem i64_in {n m : Int} (h : n = m) (hr : -9223372036854775808 ≤ m ∧ m ≤ 9223372036854775807) : IntKind.i64.wrap n = m := by
  subst h
  exact IntWalk.i64_in n hr
set_option maxRecDepth 100000 in
set_option maxHeartbeats 4000000 in
theorem ref_text (X : Nat) (v : Value) (all : List UInt8) (n : Nat) (bad : Bool) (w : World) (h : InB w X v all n bad) (hl : all.length ≤ 1099511627776) :
    Calls Tryd.prog 110 #[.pointer (some ⟨X, 0, none⟩)] w (RTextTo w X v all n bad) := by
  obtain ⟨av, cv, rfl, hlc, hcm, -, hel⟩ := h.2.1
  have HI := hid h
  have HE := hid hel
  have HLL := hid hl
  have HLC := hid hlc
  clear hel hlc hcm h hl
  go_enter Tryd.func110, Tryd.ntmps110
  go_wp2_with fail
  refine (ref_number X _ all n bad _ HI.out HLL.out).mono ?_
  rintro e w1 ⟨k, m, b1, rfl, hi1, hk1, hr1, hbb, hy, hno⟩
  have HI1 := hid hi1
  have HK1 := hid hk1
  have HKR := hid hr1
  have HBB := hid hbb
  have HY := hid hy
  have HNO := hid hno
  have x0 := cell_obj (i := 0) HI1.out.1 (v := .slice av all.length cv) rfl
  have x1 := cell_obj (i := 1) HI1.out.1 (v := .int .i64 (m : Nat)) rfl
  have x2 := cell_obj (i := 2) HI1.out.1 (v := .bool b1) rfl
  have hml := HI1.out.2.2
  clear hi1 hk1 hr1 hbb hy hno
  cases b1 with
  | true =>
    have HD : Hid (bad = true ∨ dText (all.drop n) = none) := hid ((HNO.out rfl).imp id fun h => by unfold dText; rw [h])
    clear hml
    go_wp2_with fail
    refine wp_region_lex (by kernel_rfl) (by kernel_rfl) Later Later.refl Later.trans (fun _ => none) (fun _ _ _ _ _ h => by cases h) ?_
    simp only [numbered, Nat.reduceAdd]
    refine LexS.out ?_
    iterate 22
      first
      | (refine LexS.skip rfl ?_; simp only [Act.put, List.setIfInBounds_toArray, List.set])
      | (refine LexS.one' rfl rfl ?_
         apply Exists.intro
         refine ⟨fun w hR hF => ?_, ?_⟩
         · have hP := hR
           repeat (first | replace hP := Later.of_drew hP | replace hP := Later.of_drewN hP | replace hP := Later.of_alloc hP)
           have hcs := hR.cells
           have zx0 := hP.cell x0
           have zx1 := hP.cell x1
           have zx2 := hP.cell x2
           clear hR hF hP
           go_simp
           first | done | rfl
         simp only [Act.put, List.setIfInBounds_toArray, List.set])
    refine LexS.nil ?_
    intro w2 hR2 hF9
    clear hF9
    repeat (first | replace hR2 := Later.of_drew hR2 | replace hR2 := Later.of_drewN hR2 | replace hR2 := Later.of_alloc hR2)
    have HI2 := hid (HI1.out.later hR2)
    have HK2 := hid (HK1.out.more hR2)
    clear hR2 x0 x1 x2
    have x2 := cell_obj (i := 2) HI2.out.1 (v := .bool true) rfl
    have z2 := free_obj (i := 2) HI2.out.1
    go_wp2_with fail
    go_ret
    exact text_no HD.out rfl (HI2.out.put true).1 (HK2.out.trans (HI2.out.put true).2)
  | false =>
    have HD0 := hid (HY.out rfl)
    obtain rfl : bad = false := by
      cases bad with
      | true => have := HBB.out rfl; cases this
      | false => rfl
    obtain ⟨r, hr⟩ : ∃ r, r = all.length - m := ⟨_, rfl⟩
    have hsub : IntKind.i64.wrap ((all.length : Int) - (m : Int)) = (r : Int) := i64_in (by have := HLL.out; omega) (by have := HLL.out; omega)
    have HR : Hid (m + r = all.length) := hid (by omega)
    by_cases hk0 : k < 0
    · have HD : Hid (false = true ∨ dText (all.drop n) = none) := hid (.inr (by unfold dText; rw [HD0.out]; simp only []; rw [if_pos (.inl hk0)]))
      clear hml hsub hr
      go_wp2_with fail
      refine wp_region_lex (by kernel_rfl) (by kernel_rfl) Later Later.refl Later.trans (fun _ => none) (fun _ _ _ _ _ h => by cases h) ?_
      simp only [numbered, Nat.reduceAdd]
      refine LexS.out ?_
      iterate 22
        first
        | (refine LexS.skip rfl ?_; simp only [Act.put, List.setIfInBounds_toArray, List.set])
        | (refine LexS.one' rfl rfl ?_
           apply Exists.intro
           refine ⟨fun w hR hF => ?_, ?_⟩
           · have hP := hR
             repeat (first | replace hP := Later.of_drew hP | replace hP := Later.of_drewN hP | replace hP := Later.of_alloc hP)
             have hcs := hR.cells
             have zx0 := hP.cell x0
             have zx1 := hP.cell x1
             have zx2 := hP.cell x2
             clear hR hF hP
             go_simp
             first | done | rfl
           simp only [Act.put, List.setIfInBounds_toArray, List.set])
      refine LexS.nil ?_
      intro w2 hR2 hF9
      clear hF9
      repeat (first | replace hR2 := Later.of_drew hR2 | replace hR2 := Later.of_drewN hR2 | replace hR2 := Later.of_alloc hR2)
      have HI2 := hid (HI1.out.later hR2)
      have HK2 := hid (HK1.out.more hR2)
      clear hR2 x0 x1 x2
      have x2 := cell_obj (i := 2) HI2.out.1 (v := .bool false) rfl
      have z2 := free_obj (i := 2) HI2.out.1
      go_wp2_with fail
      go_ret
      exact text_no HD.out rfl (HI2.out.put true).1 (HK2.out.trans (HI2.out.put true).2)
    · obtain ⟨q, rfl⟩ : ∃ q : Nat, k = q := ⟨k.toNat, by omega⟩
      by_cases hkr : r < q
      · have HD : Hid (false = true ∨ dText (all.drop n) = none) := hid (.inr (by unfold dText; rw [HD0.out]; simp only []; rw [if_pos (.inr (by rw [List.length_drop, ← hr]; omega))]))
        clear hml hr
        go_wp2_with fail
        refine wp_region_lex (by kernel_rfl) (by kernel_rfl) Later Later.refl Later.trans (fun _ => none) (fun _ _ _ _ _ h => by cases h) ?_
        simp only [numbered, Nat.reduceAdd]
        refine LexS.out ?_
        iterate 22
          first
          | (refine LexS.skip rfl ?_; simp only [Act.put, List.setIfInBounds_toArray, List.set])
          | (refine LexS.one' rfl rfl ?_
             apply Exists.intro
             refine ⟨fun w hR hF => ?_, ?_⟩
             · have hP := hR
               repeat (first | replace hP := Later.of_drew hP | replace hP := Later.of_drewN hP | replace hP := Later.of_alloc hP)
               have hcs := hR.cells
               have zx0 := hP.cell x0
               have zx1 := hP.cell x1
               have zx2 := hP.cell x2
               clear hR hF hP
               go_simp
               first | done | rfl
             simp only [Act.put, List.setIfInBounds_toArray, List.set])
        refine LexS.nil ?_
        intro w2 hR2 hF9
        clear hF9
        repeat (first | replace hR2 := Later.of_drew hR2 | replace hR2 := Later.of_drewN hR2 | replace hR2 := Later.of_alloc hR2)
        have HI2 := hid (HI1.out.later hR2)
        have HK2 := hid (HK1.out.more hR2)
        clear hR2 x0 x1 x2
        have x2 := cell_obj (i := 2) HI2.out.1 (v := .bool false) rfl
        have z2 := free_obj (i := 2) HI2.out.1
        go_wp2_with fail
        go_ret
        exact text_no HD.out rfl (HI2.out.put true).1 (HK2.out.trans (HI2.out.put true).2)
      · have hqr : q ≤ r := by omega
        have hM4 : n < all.length := by have := dInt_len HD0.out; rw [List.length_drop, List.length_drop] at this; omega
        obtain ⟨vb, vo, rfl, -, -⟩ := HE.out n hM4
        obtain ⟨M, hM⟩ : ∃ M, M = m + q := ⟨_, rfl⟩
        have hwM : wrap64 ((m : Int) + (q : Int)) = (M : Int) := by have := HLL.out; unfold wrap64; omega
        have hwM2 : IntKind.i64.wrap ((m : Int) + (q : Int)) = (M : Int) := i64_in (by have := HLL.out; omega) (by have := HLL.out; omega)
        have hmM : m ≤ M := by omega
        have hMl : M ≤ all.length := by omega
        have hMc : M ≤ cv := Nat.le_trans hMl HLC.out
        have HD : Hid (dText (all.drop n) = some (strB ((all.take M).drop m), all.drop M)) := hid (by
          unfold dText
          rw [HD0.out]
          simp only []
          rw [if_neg (by rw [List.length_drop, ← hr]; omega)]
          have e5 : (all.take M).drop m = (all.drop m).take q := by rw [List.drop_take, hM]; congr 1; omega
          rw [e5, List.drop_drop, hM]
          simp only [Int.toNat_natCast])
        have HMl := hid hMl
        clear hM4 hml hr hqr hM hMl
        go_wp2_with fail
        refine wp_region_lex (by kernel_rfl) (by kernel_rfl) Later Later.refl Later.trans (fun _ => none) (fun _ _ _ _ _ h => by cases h) ?_
        simp only [numbered, Nat.reduceAdd]
        refine LexS.out ?_
        iterate 22
          first
          | (refine LexS.skip rfl ?_; simp only [Act.put, List.setIfInBounds_toArray, List.set])
          | (refine LexS.one' rfl rfl ?_
             apply Exists.intro
             refine ⟨fun w hR hF => ?_, ?_⟩
             · have hP := hR
               repeat (first | replace hP := Later.of_drew hP | replace hP := Later.of_drewN hP | replace hP := Later.of_alloc hP)
               have hcs := hR.cells
               have zx0 := hP.cell x0
               have zx1 := hP.cell x1
               have zx2 := hP.cell x2
               clear hR hF hP
               go_simp
               first | done | rfl
             simp only [Act.put, List.setIfInBounds_toArray, List.set])
        refine LexS.nil ?_
        intro w2 hR2 hF9
        clear hF9
        repeat (first | replace hR2 := Later.of_drew hR2 | replace hR2 := Later.of_drewN hR2 | replace hR2 := Later.of_alloc hR2)
        have HI2 := hid (HI1.out.later hR2)
        have HK2 := hid (HK1.out.more hR2)
        replace x0 := hR2.cell x0
        replace x1 := hR2.cell x1
        clear hR2 x2 hsub
        go_wp2_with fail
        by_cases hM3 : cv = m
        · obtain rfl : M = m := by have := HMl.out; have := HLC.out; omega
          have hse : strB ((all.take M).drop M) = ByteArray.empty := by rw [List.drop_take]; simp [strB]; rfl
          have HY2 : Hid (dText (all.drop n) = some (ByteArray.empty, all.drop M)) := hid (by rw [HD.out, hse])
          clear hse
          have HS := hid (bytes_none HI2.out.2.1 (lo := M) (hi := M) hM3.symm hmM HMl.out)
          refine wp_region_lex (by kernel_rfl) (by kernel_rfl) Later Later.refl Later.trans (fun _ => none) (fun _ _ _ _ _ h => by cases h) ?_
          simp only [numbered, Nat.reduceAdd]
          refine LexS.out ?_
          iterate 17
            first
            | (refine LexS.skip rfl ?_; simp only [Act.put, List.setIfInBounds_toArray, List.set])
            | (refine LexS.one' rfl rfl ?_
               apply Exists.intro
               refine ⟨fun w hR hF => ?_, ?_⟩
               · have hP := hR
                 repeat (first | replace hP := Later.of_drew hP | replace hP := Later.of_drewN hP | replace hP := Later.of_alloc hP)
                 have hcs := hR.cells
                 have zx0 := hP.cell x0
                 have zx1 := hP.cell x1
                 have zr0 := (HS.out.bytes_later hP).string Tryd.underlying76 Tryd.underlying5 Tryd.underlying9
                 clear hR hF hP
                 go_simp
                 first | done | rfl
               simp only [Act.put, List.setIfInBounds_toArray, List.set])
          refine LexS.nil ?_
          intro w3 hR3 hF9
          clear hF9
          repeat (first | replace hR3 := Later.of_drew hR3 | replace hR3 := Later.of_drewN hR3 | replace hR3 := Later.of_alloc hR3)
          have HI3 := hid (HI2.out.later hR3)
          have HK3 := hid (HK2.out.more hR3)
          clear hR3 x0 x1
          have x1 := cell_obj (i := 1) HI3.out.1 (v := .int .i64 (M : Nat)) rfl
          have z1 := free_obj (i := 1) HI3.out.1
          go_wp2_with fail
          go_ret
          simp only [hwM]
          exact text_yes HY2.out rfl (HI3.out.move M HMl.out).1 (HK3.out.trans (HI3.out.move M HMl.out).2)
        · have HS := hid (bytes_mid HI2.out.2.1 (lo := m) (hi := M) (by have := HLC.out; have := HMl.out; omega) hmM HMl.out)
          refine wp_region_lex (by kernel_rfl) (by kernel_rfl) Later Later.refl Later.trans (fun _ => none) (fun _ _ _ _ _ h => by cases h) ?_
          simp only [numbered, Nat.reduceAdd]
          refine LexS.out ?_
          iterate 17
            first
            | (refine LexS.skip rfl ?_; simp only [Act.put, List.setIfInBounds_toArray, List.set])
            | (refine LexS.one' rfl rfl ?_
               apply Exists.intro
               refine ⟨fun w hR hF => ?_, ?_⟩
               · have hP := hR
                 repeat (first | replace hP := Later.of_drew hP | replace hP := Later.of_drewN hP | replace hP := Later.of_alloc hP)
                 have hcs := hR.cells
                 have zx0 := hP.cell x0
                 have zx1 := hP.cell x1
                 have zr0 := (HS.out.bytes_later hP).string Tryd.underlying76 Tryd.underlying5 Tryd.underlying9
                 clear hR hF hP
                 go_simp
                 first | done | rfl
               simp only [Act.put, List.setIfInBounds_toArray, List.set])
          refine LexS.nil ?_
          intro w3 hR3 hF9
          clear hF9
          repeat (first | replace hR3 := Later.of_drew hR3 | replace hR3 := Later.of_drewN hR3 | replace hR3 := Later.of_alloc hR3)
          have HI3 := hid (HI2.out.later hR3)
          have HK3 := hid (HK2.out.more hR3)
          clear hR3 x0 x1
          have x1 := cell_obj (i := 1) HI3.out.1 (v := .int .i64 (m : Nat)) rfl
          have z1 := free_obj (i := 1) HI3.out.1
          go_wp2_with fail
          go_ret
          simp only [hwM]
          exact text_yes HD.out rfl (HI3.out.move M HMl.out).1 (HK3.out.trans (HI3.out.move M HMl.out).2)
end Go.Proofs.YthfgjmdmcoogpaaDoor
