/-
  PROVED HERE: the contract of the law's names.
-/
import Derived.Test.YtcmpjdnbjhkhdaaDoorFile
import Derived.Test.YtcmpjdnbjhkhdaaDoorStrOwn
import Derived.Test.YtcmpjdnbjhkhdaaDoorLexS
import Derived.Laws.Cover1
namespace Go.Proofs.YtcmpjdnbjhkhdaaDoor
set_option linter.unusedSimpArgs false
set_option linter.unusedVariables false
open Go.RowKit

def notAbove (x y : List UInt8) : Prop := (Op.bytesLess (strB x).toList (strB y).toList || (strB x).toList == (strB y).toList) = false
set_option maxRecDepth 100000 in
set_option maxHeartbeats 2000000 in
theorem names_any {B B2 : Nat} {w : World} {gv v : Value} {got : List (List UInt8)} {l : List FE} (hg : OwnS B w gv got) (ho : OwnF B2 w v l) (hlen : got.length = l.length)
    (hin : ∀ x ∈ got, ∃ y ∈ l, y.name = x) (hup : ∀ (i : Nat) (x y : List UInt8), got[i]? = some y → got[i + 1]? = some x → notAbove x y) :
    Calls Tryd.prog 27 #[gv, v] w fun e w' => e = .returned (.bool true) ∧ Later w w' := by
  obtain ⟨a, c, rfl⟩ := hg.slice
  have HG := hid hg; have HO := hid ho; have HL := hid hlen; have HIN := hid hin; have HUP := hid hup
  have HC := hid hg.len
  obtain ⟨va, vc, rfl⟩ := ho.slice
  rw [← hlen] at HO ⊢
  obtain ⟨n, hn⟩ : ∃ n, n = got.length := ⟨_, rfl⟩
  have HN := hid hn
  rw [← hn] at HG HC HO ⊢
  clear hg ho hlen hin hup hn
  go_enter Tryd.func27, Tryd.ntmps27
  go_wp2_with fail
  obtain ⟨R1, hR1⟩ : ∃ RR_ : (Nat → Value) → World → Prop, RR_ = (fun us wx => ∃ i : Nat, us 5 = .int .i64 i ∧ i ≤ n ∧ Later w wx) := ⟨_, rfl⟩
  obtain ⟨mu1, hmu1⟩ : ∃ mu : (Nat → Value) → World → Nat, mu = (fun us _ => n - (intOf (us 5)).toNat) := ⟨_, rfl⟩
  have HR1 := hid hR1; have Hmu1 := hid hmu1; clear hR1 hmu1
  refine wp_loop_frame' [false, false, false, false, true, true, true, false, false, false, false, false, true, true, true, true, true, true, true, true, true, true, true, true, true, true, true, true, true, true, true, true, true, true, true, true, true, true, true, true, true, true] R1 _ mu1 HR1.out ?_ ?_
  · exact ⟨0, rfl, Nat.zero_le _, Later.refl _⟩
  intro us1 wx hrel
  obtain ⟨i, h5, hi, hL⟩ := hrel
  simp only [frameOf, Nat.reduceAdd, h5]
  have Hh5 := hid h5; clear h5
  have HI := hid hi; have HW := hid hL
  clear hi hL
  by_cases hlt : i < n
  · have HLT := hid hlt
    obtain ⟨g, rfl, -, p1, -⟩ := HG.out.at (show i < got.length by rw [← HN.out]; exact hlt)
    replace p1 := HW.out.cell p1
    have hg1 := cell_lt p1
    have HWI := hid (show wrap64 ((i : Int) + 1) = ((i + 1 : Nat) : Int) by have h1 := HC.out.2.1; have h2 := HC.out.2.2.1; unfold maxLen at h2; unfold wrap64; omega)
    obtain ⟨y, hy⟩ : ∃ y, y = got[i]'(by rw [← HN.out]; exact hlt) := ⟨_, rfl⟩
    have HY := hid hy
    rw [← hy] at p1
    clear hy
    go_wp2_with fail
    refine (find_any (HO.out.later HW.out) y).mono ?_
    rintro e w1 ⟨rfl, ⟨rfl, hno⟩ | ⟨k, hk, rfl, hke, -⟩⟩
    · exfalso
      obtain ⟨z, hz, hzy⟩ := HIN.out y (by rw [HY.out]; exact List.getElem_mem _)
      exact hno z hz hzy
    have hk0 : decide ((k : Int) < 0) = false := decide_eq_false (by omega)
    have hk1 : ¬ (k : Int) < 0 := by omega
    clear hk hke
    go_upto_region 7 with (fail)
    by_cases hi0 : i = 0
    · have hin0 : ¬ 0 < i := by omega
      have HI0 := hid hi0
      clear hi0
      refine wp_region_lex (by kernel_rfl) (by kernel_rfl) Later Later.refl Later.trans (fun _ => none) (fun _ _ _ _ _ h => by cases h) ?_
      simp only [numbered, Nat.reduceAdd]
      refine LexS.out ?_
      iterate 18
        first
        | (refine LexS.skip rfl ?_; simp only [Act.put, List.setIfInBounds_toArray, List.set])
        | (refine LexS.one' rfl rfl ?_
           apply Exists.intro
           refine ⟨fun w hR hF => ?_, ?_⟩
           · have hP := hR
             repeat (first | replace hP := Later.of_drew hP | replace hP := Later.of_drewN hP | replace hP := Later.of_alloc hP)
             have hcs := hR.cells
             have zp1 := hP.cell p1
             clear hR hF hP
             go_simp
             first | done | rfl
           simp only [Act.put, List.setIfInBounds_toArray, List.set])
      refine LexS.nil ?_
      intro w2 hR2 hF9
      clear hF9
      repeat (first | replace hR2 := Later.of_drew hR2 | replace hR2 := Later.of_drewN hR2 | replace hR2 := Later.of_alloc hR2)
      have HR2 := hid (Later.trans _ _ _ HW.out hR2)
      clear hR2 p1
      go_wp2_with fail
      try simp only [HWI.out]
      refine Round.mk' HR1.out Hmu1.out rfl ?_ ?_
      · exact ⟨i + 1, rfl, HLT.out, HR2.out⟩
      · rw [Hh5.out]; have := HLT.out; simp [intOf, slots]; omega
    · obtain ⟨m, hm⟩ : ∃ m, i = m + 1 := ⟨i - 1, by omega⟩
      have HM := hid hm
      obtain ⟨g', eg, -, p2, -⟩ := HG.out.at (show m < got.length by rw [← HN.out]; have := HM.out; omega)
      simp only [Option.some.injEq, Addr.mk.injEq, and_true] at eg
      subst eg
      replace p2 := HW.out.cell p2
      have hab := HUP.out m y _ (List.getElem?_eq_getElem (by rw [← HN.out]; omega)) (by rw [HY.out, ← hm]; exact List.getElem?_eq_getElem _)
      unfold notAbove at hab
      obtain ⟨z, hz⟩ : ∃ z, z = got[m]'(by rw [← HN.out]; omega) := ⟨_, rfl⟩
      rw [← hz] at p2 hab
      have HAB := hid hab
      have hwm : IntKind.i64.wrap ((i : Int) - 1) = (m : Int) := by have h1 := HC.out.2.1; have h2 := HC.out.2.2.1; unfold maxLen at h2; rw [IntKind.wrap_i64]; omega
      have hm0 : 0 < i := by omega
      have hmn : m < n := by omega
      have HWM := hid hwm
      clear hz hab hwm hm hi0
      refine wp_region_lex (by kernel_rfl) (by kernel_rfl) Later Later.refl Later.trans (fun _ => none) (fun _ _ _ _ _ h => by cases h) ?_
      simp only [numbered, Nat.reduceAdd]
      refine LexS.out ?_
      iterate 3
        first
        | (refine LexS.skip rfl ?_; simp only [Act.put, List.setIfInBounds_toArray, List.set])
        | (refine LexS.one' rfl rfl ?_
           apply Exists.intro
           refine ⟨fun w hR hF => ?_, ?_⟩
           · have hP := hR
             repeat (first | replace hP := Later.of_drew hP | replace hP := Later.of_drewN hP | replace hP := Later.of_alloc hP)
             have hcs := hR.cells
             have zp1 := hP.cell p1
             have zp2 := hP.cell p2
             clear hR hF hP
             go_simp
             first | done | rfl
           simp only [Act.put, List.setIfInBounds_toArray, List.set])
      iterate 12
        first
        | (refine LexS.skip rfl ?_; simp only [Act.put, List.setIfInBounds_toArray, List.set])
        | (refine LexS.one' rfl rfl ?_
           apply Exists.intro
           refine ⟨fun w hR hF => ?_, ?_⟩
           · have hP := hR
             repeat (first | replace hP := Later.of_drew hP | replace hP := Later.of_drewN hP | replace hP := Later.of_alloc hP)
             have hcs := hR.cells
             have zp1 := hP.cell p1
             have zp2 := hP.cell p2
             have zr0 := HWM.out
             have zr1 := HAB.out
             clear hR hF hP
             go_simp
             first | done | rfl
           simp only [Act.put, List.setIfInBounds_toArray, List.set])
      iterate 3
        first
        | (refine LexS.skip rfl ?_; simp only [Act.put, List.setIfInBounds_toArray, List.set])
        | (refine LexS.one' rfl rfl ?_
           apply Exists.intro
           refine ⟨fun w hR hF => ?_, ?_⟩
           · have hP := hR
             repeat (first | replace hP := Later.of_drew hP | replace hP := Later.of_drewN hP | replace hP := Later.of_alloc hP)
             have hcs := hR.cells
             have zp1 := hP.cell p1
             have zp2 := hP.cell p2
             clear hR hF hP
             go_simp
             first | done | rfl
           simp only [Act.put, List.setIfInBounds_toArray, List.set])
      refine LexS.nil ?_
      intro w2 hR2 hF9
      clear hF9
      repeat (first | replace hR2 := Later.of_drew hR2 | replace hR2 := Later.of_drewN hR2 | replace hR2 := Later.of_alloc hR2)
      have HR2 := hid (Later.trans _ _ _ HW.out hR2)
      clear hR2 p1 p2
      rw [HAB.out]
      go_wp2_with fail
      try simp only [HWI.out]
      refine Round.mk' HR1.out Hmu1.out rfl ?_ ?_
      · exact ⟨i + 1, rfl, HLT.out, HR2.out⟩
      · rw [Hh5.out]; have := HLT.out; simp [intOf, slots]; omega
  · go_wp2_with fail
    go_ret
    exact ⟨rfl, HW.out⟩
end Go.Proofs.YtcmpjdnbjhkhdaaDoor
