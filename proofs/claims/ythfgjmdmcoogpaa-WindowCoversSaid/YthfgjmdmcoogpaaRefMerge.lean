/-
  PROVED HERE: the contract of the document's Merge: what meets is one; no two meet.
-/
import Derived.Test.YthfgjmdmcoogpaaRefMergePlain
import Derived.Test.YthfgjmdmcoogpaaWinFns
namespace Go.Proofs.Ythfgjmdmcoogpaa
set_option linter.unusedSimpArgs false
set_option linter.unusedVariables false
open Go.RowKit

def MergedTo (w : World) (l : List Win) (e : Ending) (w' : World) : Prop := ∃ v out, e = .returned v ∧ OwnW w.heap.size w' v out ∧ Merged l out ∧ out.length ≤ l.length ∧ Later w w'
def kept (l : List Win) (k : Nat) : List Win := (l.take k).filter keepW
theorem kept_succ {l : List Win} {k : Nat} (h : k < l.length) : kept l (k + 1) = if keepW l[k] then kept l k ++ [l[k]] else kept l k := by
  unfold kept
  rw [List.take_succ_eq_append_getElem h, List.filter_append]
  cases hb : keepW l[k] <;> simp [hb]
theorem kept_all (l : List Win) : kept l l.length = l.filter keepW := by unfold kept; rw [List.take_length]
theorem kept_len (l : List Win) (k : Nat) : (kept l k).length ≤ k := by
  unfold kept
  exact Nat.le_trans (List.length_filter_le _ _) (by rw [List.length_take]; omega)
def lenOf : Value → Nat
  | .slice _ n _ => n
  | _ => 0
def truthOf : Value → Nat
  | .bool true => 1
  | _ => 0
def NoMeet (L : List Win) (i : Nat) : Prop := ∀ (p q : Nat) (hq : q < L.length) (hpq : p < q), p < i → meetW (L[p]'(by omega)) L[q] = false
theorem app_later {w0 w w' : World} {B s n m : Nat} {e : TypeId} {xs ys : List Value} {v v' : Value} (hL : Later w0 w) (ho : w.ownsRow B e s v m ys) (hA : Appended w B e s v n xs v' w') (hB : w0.heap.size ≤ B) : Later w0 w' := hA.later ho hL hB
set_option maxRecDepth 100000 in
set_option maxHeartbeats 8000000 in
theorem ref_merge (l : List Win) (v : Value) (w : World) (hv : WinsIn (fun _ => True) w v l) (hl : l.length * 16 ≤ 140737488355328) :
    Calls Try.prog 7 #[v] w (MergedTo w l) := by
  obtain ⟨p, c, rfl, hac, hcm, -, hea⟩ := hv
  have HE := hid hea
  have HLL := hid hl
  clear hea hl hac hcm
  go_enter Try.func7, Try.ntmps7
  go_wp2_with fail
  obtain ⟨R1, hR1⟩ : ∃ RR_ : (Nat → Value) → World → Prop, RR_ = (fun us wx => ∃ (k : Nat) (a : Option Addr) (c : Nat), k ≤ l.length ∧ us 4 = .int .i64 k ∧ us 3 = .slice a (kept l k).length c ∧ OwnW w.heap.size wx (.slice a (kept l k).length c) (kept l k) ∧ Later w wx) := ⟨_, rfl⟩
  obtain ⟨mu1, hmu1⟩ : ∃ mu : (Nat → Value) → World → Nat, mu = (fun us _ => l.length - (intOf (us 4)).toNat) := ⟨_, rfl⟩
  have HR1 := hid hR1; have Hmu1 := hid hmu1; clear hR1 hmu1
  refine wp_loop_frame' [false, false, false, true, true, false, false, false, false, false, false, false, false, true, true, true, true, true, true, true, true, true, true, true, true, true, true, true, true, true, true, true, true, true, true, true, true] R1 _ mu1 HR1.out ?_ ?_
  · exact ⟨0, none, 0, by omega, rfl, rfl, OwnW.nil _ _, Later.refl _⟩
  intro us1 wx hrel
  obtain ⟨k, a, cp, hk, h4, h3, ho, hL⟩ := hrel
  simp only [frameOf, Nat.reduceAdd, h4, h3]
  have Hh4 := hid h4; clear h4
  have Hh3 := hid h3; clear h3
  have HK := hid hk; have HO := hid ho; have HL := hid hL
  clear hk ho hL
  by_cases hlt : k < l.length
  · obtain ⟨b, o, rfl, -, p1, p2⟩ := HE.out k hlt
    replace p1 := HL.out.cell p1
    replace p2 := HL.out.cell p2
    have HLT := hid hlt
    have hks := kept_succ hlt
    have HKL := hid (kept_len l k)
    generalize l[k] = x at p1 p2 hks
    have HKS := hid hks
    obtain ⟨M, hM⟩ : ∃ M, M = kept l k := ⟨_, rfl⟩
    rw [← hM] at HO HKS HKL
    try rw [← hM]
    obtain ⟨x1, x2⟩ := x
    simp only at p1 p2
    clear hks
    have HMM := hid hM
    clear hM
    have hw4 : wrap64 ((k : Int) + 1) = ((k + 1 : Nat) : Int) := by have := HLT.out; have := HLL.out; unfold wrap64; omega
    go_upto_region 5 with (fail)
    by_cases hx : x1 < x2
    · have HXX := hid hx
      refine wp_region_lex (by kernel_rfl) (by kernel_rfl) Later Later.refl Later.trans (fun _ => none) (fun _ _ _ _ _ h => by cases h) ?_
      simp only [numbered, Nat.reduceAdd]
      refine LexS.out ?_
      iterate 11
        first
        | (refine LexS.skip rfl ?_; simp only [Act.put, List.setIfInBounds_toArray, List.set])
        | (refine LexS.one' rfl rfl ?_
           apply Exists.intro
           refine ⟨fun w hR hF => ?_, ?_⟩
           · have hP := hR
             repeat (first | replace hP := Later.of_drew hP | replace hP := Later.of_drewN hP | replace hP := Later.of_alloc hP)
             have hcs := hR.cells
             have zp1 := hP.cell p1
             have zp2 := hP.cell p2
             clear hR hF hP
             go_simp
             first | done | rfl
           simp only [Act.put, List.setIfInBounds_toArray, List.set])
      refine LexS.nil ?_
      intro w1 hR1 hF9
      clear hF9
      repeat (first | replace hR1 := Later.of_drew hR1 | replace hR1 := Later.of_drewN hR1 | replace hR1 := Later.of_alloc hR1)
      have HL1 := hid (Later.trans _ _ _ HL.out hR1)
      have HO1 := hid (owns_at HO.out hR1)
      replace p1 := hR1.cell p1
      replace p2 := hR1.cell p2
      clear hR1
      go_wp2_with (at_builtin; go_loud (refine wpList_append_obj rfl _ _ 22 rfl 24 2 16 Try.underlying22 infoWn rfl (owns_at HO1.out (Later.alloc _ _)) (news := [.int .i64 x1, .int .i64 x2]) rfl (obj_at (by simp)) rfl (win_one (x1, x2)) ?c1 ?c2 ?c3 ?_))
      case c1 => have := HKL.out; have := HLL.out; have := HLT.out; omega
      case c2 => have := HKL.out; have := HLL.out; have := HLT.out; unfold maxLen; omega
      case c3 => have := HL1.out.size; simp only [World.size_alloc]; omega
      intro v7 w7 hA7
      have HL7 := hid (app_later (Later.trans _ _ _ HL1.out (Later.alloc _ _)) (owns_at HO1.out (Later.alloc _ _)) hA7 (Nat.le_refl _))
      obtain ⟨a7, c7, rfl⟩ := ownsRow_slice hA7.own
      have HO7 := hid hA7.own
      clear hA7 p1 p2
      go_wp2_with fail
      try simp only [hw4]
      have hk2 : kept l (k + 1) = M ++ [(x1, x2)] := by rw [HKS.out, if_pos (by unfold keepW; exact decide_eq_true HXX.out)]
      refine Round.mk' HR1.out Hmu1.out rfl ?_ ?_
      · refine ⟨k + 1, a7, c7, HLT.out, rfl, ?_, ?_, HL7.out⟩
        · rw [hk2, List.length_append]; rfl
        · rw [hk2]
          have := HO7.out
          unfold OwnW
          rw [winCells_snoc, List.length_append]
          exact this
      · rw [Hh4.out]; have := HLT.out; simp [intOf, slots]; omega
    · have HXX := hid hx
      have hx' : x2 ≤ x1 := by omega
      refine wp_region_lex (by kernel_rfl) (by kernel_rfl) Later Later.refl Later.trans (fun _ => none) (fun _ _ _ _ _ h => by cases h) ?_
      simp only [numbered, Nat.reduceAdd]
      refine LexS.out ?_
      iterate 11
        first
        | (refine LexS.skip rfl ?_; simp only [Act.put, List.setIfInBounds_toArray, List.set])
        | (refine LexS.one' rfl rfl ?_
           apply Exists.intro
           refine ⟨fun w hR hF => ?_, ?_⟩
           · have hP := hR
             repeat (first | replace hP := Later.of_drew hP | replace hP := Later.of_drewN hP | replace hP := Later.of_alloc hP)
             have hcs := hR.cells
             have zp1 := hP.cell p1
             have zp2 := hP.cell p2
             clear hR hF hP
             go_simp
             first | done | rfl
           simp only [Act.put, List.setIfInBounds_toArray, List.set])
      refine LexS.nil ?_
      intro w1 hR1 hF9
      clear hF9
      repeat (first | replace hR1 := Later.of_drew hR1 | replace hR1 := Later.of_drewN hR1 | replace hR1 := Later.of_alloc hR1)
      have HL1 := hid (Later.trans _ _ _ HL.out hR1)
      have HO1 := hid (owns_at HO.out hR1)
      clear hR1 p1 p2
      go_wp2_with fail
      try simp only [hw4]
      have hk2 : kept l (k + 1) = M := by rw [HKS.out, if_neg (by unfold keepW; rw [decide_eq_true_eq]; have := HXX.out; show ¬ x1 < x2; omega)]
      refine Round.mk' HR1.out Hmu1.out rfl ?_ ?_
      · refine ⟨k + 1, a, cp, HLT.out, rfl, ?_, ?_, HL1.out⟩
        · rw [hk2]; rfl
        · rw [hk2]; exact HO1.out
      · rw [Hh4.out]; have := HLT.out; simp [intOf, slots]; omega
  · obtain rfl : k = l.length := by have := HK.out; omega
    clear hlt
    go_upto_region 7 with (fail)
    have HST : Hid (Full (kept l l.length) ∧ SameC (kept l l.length) l ∧ (kept l l.length).length ≤ l.length) := hid ⟨by rw [kept_all]; exact full_filter l, by rw [kept_all]; exact sameC_filter l, kept_len l _⟩
    obtain ⟨L0, hL0⟩ : ∃ L0, L0 = kept l l.length := ⟨_, rfl⟩
    rw [← hL0] at HO HST
    rw [← hL0]
    clear hL0 HE
    go_wp2_with fail
    obtain ⟨R2, hR2⟩ : ∃ RR_ : (Nat → Value) → World → Prop, RR_ = (fun us wz => ∃ (L : List Win) (a : Option Addr) (c : Nat) (g : Bool), us 5 = .bool g ∧ us 3 = .slice a L.length c ∧ OwnW w.heap.size wz (.slice a L.length c) L ∧ Later w wz ∧ Full L ∧ SameC L l ∧ L.length ≤ l.length ∧ (g = false → NoMeet L L.length)) := ⟨_, rfl⟩
    obtain ⟨mu2, hmu2⟩ : ∃ mu : (Nat → Value) → World → Nat, mu = (fun us _ => 2 * lenOf (us 3) + truthOf (us 5)) := ⟨_, rfl⟩
    have HR2 := hid hR2; have Hmu2 := hid hmu2; clear hR2 hmu2
    refine wp_loop_frame' [false, false, false, true, false, true, true, true, true, true, false, false, false, false, false, false, false, false, false, false, false, false, false, false, false, false, false, false, false, false, false, false, false, false, false, false, false, true, true, true, true, true, true, true, true, true, true, true, true, true, true, true, true, true, true, true, true, true, true, true, true, true, true, true, true, true, true, true, true, true, true, true, true, true, true, true, true, true, true, true, true, true, true, true, true, true, true, true, true, true, true, true, true, true, true, true, true, true, true, true, true, true, true, true, true, true, true, true, true, true, true, true, true, true, true, true, true, true, true, true, true, true] R2 _ mu2 HR2.out ?_ ?_
    · exact ⟨L0, a, cp, true, rfl, rfl, HO.out, HL.out, HST.out.1, HST.out.2.1, HST.out.2.2, fun h => by cases h⟩
    clear HO HL HK HST
    intro us2 wz hrel
    obtain ⟨L, a2, c2, gg, h5, h3, ho, hL, hf, hs, hn, hm⟩ := hrel
    simp only [frameOf, Nat.reduceAdd, h5, h3]
    have Hh5 := hid h5; clear h5
    have Hh3 := hid h3; clear h3
    have HO := hid ho; have HL := hid hL; have HST := hid (And.intro hf (And.intro hs hn)); have HM := hid hm
    clear ho hL hf hs hn hm
    cases gg with
    | true =>
      clear HM
      go_wp2_with fail
      obtain ⟨R3, hR3⟩ : ∃ RR_ : (Nat → Value) → World → Prop, RR_ = (fun us wy => ∃ (M : List Win) (a : Option Addr) (c : Nat) (g : Bool) (i : Nat), us 5 = .bool g ∧ us 6 = .int .i64 i ∧ us 3 = .slice a M.length c ∧ OwnW w.heap.size wy (.slice a M.length c) M ∧ Later w wy ∧ Full M ∧ SameC M l ∧ M.length ≤ l.length ∧ (g = false → M = L ∧ i ≤ L.length ∧ NoMeet L i) ∧ (g = true → M.length < L.length ∧ i ≤ L.length)) := ⟨_, rfl⟩
      obtain ⟨mu3, hmu3⟩ : ∃ mu : (Nat → Value) → World → Nat, mu = (fun us _ => if truthOf (us 5) = 1 then 0 else L.length + 1 - (intOf (us 6)).toNat) := ⟨_, rfl⟩
      have HR3 := hid hR3; have Hmu3 := hid hmu3; clear hR3 hmu3
      refine wp_loop_frame' [false, false, false, true, false, true, true, true, true, true, false, false, false, false, false, false, false, false, false, false, false, false, false, false, false, false, false, false, false, false, false, false, false, false, false, false, false, false, true, true, true, true, true, true, true, true, true, true, true, true, true, true, true, true, true, true, true, true, true, true, true, true, true, true, true, true, true, true, true, true, true, true, true, true, true, true, true, true, true, true, true, true, true, true, true, true, true, true, true, true, true, true, true, true, true, true, true, true, true, true, true, true, true, true, true, true, true, true, true, true, true, true, true, true, true, true, true, true, true, true, true, true] R3 _ mu3 HR3.out ?_ ?_
      · exact ⟨L, a2, c2, false, 0, rfl, rfl, rfl, HO.out, HL.out, HST.out.1, HST.out.2.1, HST.out.2.2, fun _ => ⟨rfl, Nat.zero_le _, fun p q hq hpq hp => by omega⟩, fun h => by cases h⟩
      have HLL2 := hid HST.out.2.2
      clear HO HL HST
      intro us3 wy hrel
      obtain ⟨M, a3, c3, gg, i, k5, k6, k3, ho, hL, hf, hs, hn, hm1, hm2⟩ := hrel
      simp only [frameOf, Nat.reduceAdd, k5, k6, k3]
      have Hk5 := hid k5; clear k5
      have Hk6 := hid k6; clear k6
      have Hk3 := hid k3; clear k3
      have HO := hid ho; have HL := hid hL; have HST := hid (And.intro hf (And.intro hs hn)); have HM1 := hid hm1; have HM2 := hid hm2
      clear ho hL hf hs hn hm1 hm2
      cases gg with
      | true =>
        have h2 := HM2.out rfl
        have H2 := hid h2
        clear h2
        by_cases hil : i < M.length
        all_goals
          go_wp2_with fail
          refine Round.mk' HR2.out Hmu2.out rfl ?_ ?_
          · exact ⟨M, a3, c3, true, rfl, rfl, HO.out, HL.out, HST.out.1, HST.out.2.1, HST.out.2.2, fun h => by cases h⟩
          · rw [Hh5.out, Hh3.out]; have := H2.out; simp [lenOf, truthOf, slots]; omega
      | false =>
        obtain ⟨rfl, h3, h4⟩ := HM1.out rfl
        have H3 := hid h3
        have H4 := hid h4
        clear HM1 HM2 h3 h4
        by_cases hil : i < M.length
        · have HIL := hid hil
          have hwi : wrap64 ((i : Int) + 1) = ((i + 1 : Nat) : Int) := by have := HIL.out; have := HLL.out; have := HLL2.out; unfold wrap64; omega
          have HWI := hid hwi
          go_upto_region 13 with (fail)
          go_wp2_with fail
          try simp only [hwi]
          clear hwi
          obtain ⟨R4, hR4⟩ : ∃ RR_ : (Nat → Value) → World → Prop, RR_ = (fun us wv => ∃ (N : List Win) (a : Option Addr) (c : Nat) (g : Bool) (k : Nat), us 5 = .bool g ∧ us 7 = .int .i64 k ∧ us 3 = .slice a N.length c ∧ OwnW w.heap.size wv (.slice a N.length c) N ∧ Later w wv ∧ Full N ∧ SameC N l ∧ N.length ≤ l.length ∧ (g = false → N = M ∧ i < k ∧ k ≤ M.length ∧ ∀ (q : Nat) (hq : q < M.length) (hi : i < M.length), i < q → q < k → meetW M[i] M[q] = false) ∧ (g = true → N.length < M.length ∧ k ≤ M.length)) := ⟨_, rfl⟩
          obtain ⟨mu4, hmu4⟩ : ∃ mu : (Nat → Value) → World → Nat, mu = (fun us _ => if truthOf (us 5) = 1 then 0 else M.length + 1 - (intOf (us 7)).toNat) := ⟨_, rfl⟩
          have HR4 := hid hR4; have Hmu4 := hid hmu4; clear hR4 hmu4
          refine wp_loop_frame' [false, false, false, true, false, true, false, true, true, true, false, false, false, false, false, false, false, false, false, false, false, false, false, false, false, false, false, false, false, false, false, false, false, false, false, false, false, false, false, false, false, false, false, false, false, false, false, false, false, false, true, true, true, true, true, true, true, true, true, true, true, true, true, true, true, true, true, true, true, true, true, true, true, true, true, true, true, true, true, true, true, true, true, true, true, true, true, true, true, true, true, true, true, true, true, true, true, true, true, true, true, true, true, true, true, true, true, true, true, true, true, true, true, true, true, true, true, true, true, true, true, true] R4 _ mu4 HR4.out ?_ ?_
          · exact ⟨M, a3, c3, false, i + 1, rfl, rfl, rfl, HO.out, HL.out, HST.out.1, HST.out.2.1, HST.out.2.2, fun _ => ⟨rfl, by omega, HIL.out, fun q hq hi h1 h2 => by omega⟩, fun h => by cases h⟩
          clear HO HL HST hil
          intro us4 wv hrel
          obtain ⟨N, a4, c4, gg, k, m5, m7, m3, ho, hL, hf, hs, hn, hm1, hm2⟩ := hrel
          simp only [frameOf, Nat.reduceAdd, m5, m7, m3]
          have Hm5 := hid m5; clear m5
          have Hm7 := hid m7; clear m7
          have Hm3 := hid m3; clear m3
          have HO := hid ho; have HL := hid hL; have HST := hid (And.intro hf (And.intro hs hn)); have HM1 := hid hm1; have HM2 := hid hm2
          clear ho hL hf hs hn hm1 hm2
          cases gg with
          | true =>
            have h2 := HM2.out rfl
            have H2 := hid h2
            clear h2
            by_cases hkl : k < N.length
            all_goals
              go_wp2_with fail
              try simp only [HWI.out]
              refine Round.mk' HR3.out Hmu3.out rfl ?_ ?_
              · exact ⟨N, a4, c4, true, i + 1, rfl, rfl, rfl, HO.out, HL.out, HST.out.1, HST.out.2.1, HST.out.2.2, fun h => (by cases h), fun _ => ⟨H2.out.1, HIL.out⟩⟩
              · rw [Hk5.out, Hk6.out]; have := HIL.out; simp [truthOf, intOf, slots]; omega
          | false =>
            obtain ⟨rfl, h3, h4, h5⟩ := HM1.out rfl
            have HIK := hid h3
            have HKL := hid h4
            have H5 := hid h5
            clear HM1 HM2 h3 h4 h5
            by_cases hkl : k < N.length
            · have HKL2 := hid hkl
              have HWK : Hid (wrap64 ((k : Int) + 1) = ((k + 1 : Nat) : Int)) := hid (by have := HKL2.out; have := HLL.out; have := HLL2.out; unfold wrap64; omega)
              go_upto_region 16 with (fail)
              have hil : i < N.length := by have := HIK.out; omega
              obtain ⟨g, rfl, hgB, p1, p2, hfr⟩ := OwnW.cells HO.out hil
              obtain ⟨g', eg, -, q1, q2, -⟩ := OwnW.cells HO.out hkl
              simp only [Option.some.injEq, Addr.mk.injEq, and_true] at eg
              subst eg
              have HGB := hid hgB; have HFR := hid hfr
              clear hgB hfr
              generalize hx : N[i] = x at p1 p2
              generalize hy : N[k] = y at q1 q2
              have HX := hid hx; have HY := hid hy
              clear hx hy
              obtain ⟨x1, x2⟩ := x
              obtain ⟨y1, y2⟩ := y
              simp only at p1 p2 q1 q2
              refine wp_region_lex (by kernel_rfl) (by kernel_rfl) Later Later.refl Later.trans (kinds [(8, fun v _ => v = .bool (meetW (x1, x2) (y1, y2)))]) (kinds_still (by simp +contextual)) ?_
              simp only [numbered, Nat.reduceAdd]
              refine LexS.out ?_
              iterate 8
                first
                | (refine LexS.skip rfl ?_; simp only [Act.put, List.setIfInBounds_toArray, List.set])
                | (refine LexS.one' rfl rfl ?_
                   apply Exists.intro
                   refine ⟨fun w hR hF => ?_, ?_⟩
                   · have hP := hR
                     repeat (first | replace hP := Later.of_drew hP | replace hP := Later.of_drewN hP | replace hP := Later.of_alloc hP)
                     have hcs := hR.cells
                     have zp1 := hP.cell p1
                     have zp2 := hP.cell p2
                     have zq1 := hP.cell q1
                     have zq2 := hP.cell q2
                     clear hR hF hP
                     go_simp
                     first | done | rfl
                   simp only [Act.put, List.setIfInBounds_toArray, List.set])
              refine LexS.anyEq rfl rfl (fun w hR hF => ?_) ?_
              · have hP := hR
                repeat (first | replace hP := Later.of_drew hP | replace hP := Later.of_drewN hP | replace hP := Later.of_alloc hP)
                have hcs := hR.cells
                clear hF hR
                unfold Runs
                go_simp
                unfold Yield
                refine (rmeet_any (x1, x2) (y1, y2) _).mono ?_
                rintro e w' ⟨rfl, hL⟩
                exact ⟨_, rfl, hL, rfl⟩
              simp only [Act.put, List.setIfInBounds_toArray, List.set]
              iterate 1
                first
                | (refine LexS.skip rfl ?_; simp only [Act.put, List.setIfInBounds_toArray, List.set])
                | (refine LexS.one' rfl rfl ?_
                   apply Exists.intro
                   refine ⟨fun w hR hF => ?_, ?_⟩
                   · have hP := hR
                     repeat (first | replace hP := Later.of_drew hP | replace hP := Later.of_drewN hP | replace hP := Later.of_alloc hP)
                     have hcs := hR.cells
                     clear hR hF hP
                     go_simp
                     first | done | rfl
                   simp only [Act.put, List.setIfInBounds_toArray, List.set])
              refine LexS.nil ?_
              intro w1 hR1 hF9
              clear hF9
              repeat (first | replace hR1 := Later.of_drew hR1 | replace hR1 := Later.of_drewN hR1 | replace hR1 := Later.of_alloc hR1)
              have HL1 := hid (Later.trans _ _ _ HL.out hR1)
              have HO1 := hid (owns_at HO.out hR1)
              replace p1 := hR1.cell p1
              replace p2 := hR1.cell p2
              replace q1 := hR1.cell q1
              replace q2 := hR1.cell q2
              clear hR1 HL HO
              cases hmm : meetW (x1, x2) (y1, y2) with
              | false =>
                have HMM := hid hmm
                clear hmm
                clear p1 p2 q1 q2
                go_wp2_with fail
                try simp only [HWK.out]
                refine Round.mk' HR4.out Hmu4.out rfl ?_ ?_
                · refine ⟨N, some ⟨g, 0, none⟩, c4, false, k + 1, rfl, rfl, rfl, HO1.out, HL1.out, HST.out.1, HST.out.2.1, HST.out.2.2, fun _ => ⟨rfl, by have := HIK.out; omega, by omega, fun q hq hi h1 h2 => ?_⟩, fun h => (by cases h)⟩
                  by_cases hqk : q = k
                  · subst hqk; exact (congr (congrArg meetW HX.out) HY.out).trans HMM.out
                  · exact H5.out q hq hi h1 (by omega)
                · rw [Hm5.out, Hm7.out]; simp [truthOf, intOf, slots]; omega
              | true =>
                have HMM := hid hmm
                clear hmm
                go_upto_region 18 with (fail)
                have HSET := hid (show ∀ (wq : World) (L' : List Win), OwnW w.heap.size wq (.slice (some ⟨g, 0, none⟩) N.length c4) L' → Later w wq → ∀ o u, Later w (wq.setCell ⟨g, o, none⟩ u) from fun wq L' _ h o u => ((h.keeps (fun _ => True)).setCell (p := ⟨g, o, none⟩) (.inr HGB.out) u).later)
                obtain ⟨J1, hJ1⟩ : ∃ J1, J1 = min x1 y1 := ⟨_, rfl⟩
                obtain ⟨J2, hJ2⟩ : ∃ J2, J2 = max x2 y2 := ⟨_, rfl⟩
                have HJ1 := hid hJ1; have HJ2 := hid hJ2
                clear hJ1 hJ2
                refine wp_region_lex (by kernel_rfl) (by kernel_rfl) Later Later.refl Later.trans (fun _ => none) (fun _ _ _ _ _ h => by cases h) ?_
                simp only [numbered, Nat.reduceAdd]
                refine LexS.out ?_
                iterate 11
                  first
                  | (refine LexS.skip rfl ?_; simp only [Act.put, List.setIfInBounds_toArray, List.set])
                  | (refine LexS.one' rfl rfl ?_
                     apply Exists.intro
                     refine ⟨fun w hR hF => ?_, ?_⟩
                     · have hP := hR
                       repeat (first | replace hP := Later.of_drew hP | replace hP := Later.of_drewN hP | replace hP := Later.of_alloc hP)
                       have hcs := hR.cells
                       have zp1 := hP.cell p1
                       have zq1 := hP.cell q1
                       clear hR hF hP
                       go_simp
                       first | done | rfl
                     simp only [Act.put, List.setIfInBounds_toArray, List.set])
                refine LexS.nil ?_
                intro w2 hR2 hF9
                clear hF9
                repeat (first | replace hR2 := Later.of_drew hR2 | replace hR2 := Later.of_drewN hR2 | replace hR2 := Later.of_alloc hR2)
                have HL2 := hid (Later.trans _ _ _ HL1.out hR2)
                have HO2 := hid (owns_at HO1.out hR2)
                replace q1 := hR2.cell q1
                replace p1 := hR2.cell p1
                clear hR2 p2 q2
                go_upto_if 80 with (fail)
                obtain ⟨R5, hR5⟩ : ∃ RR_ : (Nat → Value) → World → Prop, RR_ = (fun us wq => OwnW w.heap.size wq (.slice (some ⟨g, 0, none⟩) N.length c4) (N.set i (J1, x2)) ∧ Later w wq) := ⟨_, rfl⟩
                have HR5 := hid hR5; clear hR5
                refine wp_cut_frame' [false, false, false, false, false, false, false, false, false, false, false, false, false, false, false, false, false, false, false, false, false, false, false, false, false, false, false, false, false, false, false, false, false, false, false, false, false, false, false, false, false, false, false, false, false, false, false, false, false, false, false, false, false, false, false, false, false, false, false, false, false, false, false, false, false, false, false, false, false, false, false, false, false, false, false, false, false, false, false, false, true, true, true, true, true, true, true, true, true, true] R5 _ HR5.out ?_ ?_
                · by_cases hA : y1 < x1
                  · have HA := hid hA
                    have z1 := OwnW.free HO2.out (i * 2)
                    go_wp2_with fail
                    refine Meet.mk' HR5.out rfl ?_
                    refine ⟨?_, HSET.out _ _ HO2.out HL2.out _ _⟩
                    have h := OwnW.set0 HO2.out rfl hil y1
                    have e : N.set i (J1, x2) = N.set i (y1, N[i].2) := by rw [HJ1.out, Int.min_eq_right (by omega)]; exact congrArg (fun z : Win => N.set i (y1, z.2)) HX.out.symm
                    rw [e]
                    exact h
                  · have HA := hid hA
                    go_wp2_with fail
                    refine Meet.mk' HR5.out rfl ?_
                    refine ⟨?_, HL2.out⟩
                    have e : N.set i (J1, x2) = N := by
                      have e1 : (J1, x2) = N[i] := by rw [HJ1.out, Int.min_eq_left (by omega)]; exact HX.out.symm
                      rw [e1]
                      exact List.set_getElem_self hil
                    rw [e]
                    exact HO2.out
                clear q1 p1 HO2 HL2 HO1 HL1
                intro us5 w3 hrel
                obtain ⟨ho, hL⟩ := hrel
                simp only [frameOf, Nat.reduceAdd]
                have HO3 := hid ho; have HL3 := hid hL
                clear ho hL
                have hil2 : i < (N.set i (J1, x2)).length := by rw [List.length_set]; exact hil
                have hkl2 : k < (N.set i (J1, x2)).length := by rw [List.length_set]; exact hkl
                have hlen : (N.set i (J1, x2)).length = N.length := List.length_set ..
                obtain ⟨g', eg, -, p1, p2, -⟩ := OwnW.cells HO3.out hil2
                simp only [Option.some.injEq, Addr.mk.injEq, and_true] at eg
                subst eg
                obtain ⟨g', eg, -, q1, q2, -⟩ := OwnW.cells HO3.out hkl2
                simp only [Option.some.injEq, Addr.mk.injEq, and_true] at eg
                subst eg
                have e1 : (N.set i (J1, x2))[i]'hil2 = (J1, x2) := List.getElem_set_self ..
                have e2 : (N.set i (J1, x2))[k]'hkl2 = (y1, y2) := (List.getElem_set_ne (by have := HIK.out; omega) _).trans HY.out
                rw [e1] at p1 p2
                rw [e2] at q1 q2
                simp only at p1 p2 q1 q2
                clear e1 e2
                go_upto_region 20 with (fail)
                refine wp_region_lex (by kernel_rfl) (by kernel_rfl) Later Later.refl Later.trans (fun _ => none) (fun _ _ _ _ _ h => by cases h) ?_
                simp only [numbered, Nat.reduceAdd]
                refine LexS.out ?_
                iterate 11
                  first
                  | (refine LexS.skip rfl ?_; simp only [Act.put, List.setIfInBounds_toArray, List.set])
                  | (refine LexS.one' rfl rfl ?_
                     apply Exists.intro
                     refine ⟨fun w hR hF => ?_, ?_⟩
                     · have hP := hR
                       repeat (first | replace hP := Later.of_drew hP | replace hP := Later.of_drewN hP | replace hP := Later.of_alloc hP)
                       have hcs := hR.cells
                       have zp2 := hP.cell p2
                       have zq2 := hP.cell q2
                       clear hR hF hP
                       go_simp
                       first | done | rfl
                     simp only [Act.put, List.setIfInBounds_toArray, List.set])
                refine LexS.nil ?_
                intro w4 hR4 hF9
                clear hF9
                repeat (first | replace hR4 := Later.of_drew hR4 | replace hR4 := Later.of_drewN hR4 | replace hR4 := Later.of_alloc hR4)
                have HL4 := hid (Later.trans _ _ _ HL3.out hR4)
                have HO4 := hid (owns_at HO3.out hR4)
                replace q2 := hR4.cell q2
                replace p2 := hR4.cell p2
                clear hR4 p1 q1 HO3 HL3
                go_upto_if 100 with (fail)
                obtain ⟨R6, hR6⟩ : ∃ RR_ : (Nat → Value) → World → Prop, RR_ = (fun us wq => OwnW w.heap.size wq (.slice (some ⟨g, 0, none⟩) N.length c4) (N.set i (J1, J2)) ∧ Later w wq) := ⟨_, rfl⟩
                have HR6 := hid hR6; clear hR6
                refine wp_cut_frame' [false, false, false, false, false, false, false, false, false, false, false, false, false, false, false, false, false, false, false, false, false, false, false, false, false, false, false, false, false, false, false, false, false, false, false, false, false, false, false, false, false, false, false, false, false, false, false, false, false, false, false, false, false, false, false, false, false, false, false, false, false, false, false, false, false, false, false, false, false, false, false, false, false, false, false, false, false, false, false, false, false, false, false, false, false, false, false, false, false, false, false, false, false, false, false, false, false, false, false, false, true, true, true, true, true, true, true, true, true, true] R6 _ HR6.out ?_ ?_
                · by_cases hA : x2 < y2
                  · have HA := hid hA
                    have z1 := OwnW.free HO4.out (i * 2 + 1)
                    go_wp2_with fail
                    refine Meet.mk' HR6.out rfl ?_
                    refine ⟨?_, HSET.out _ _ (by have := HO4.out; unfold OwnW at this ⊢; rwa [hlen] at this) HL4.out _ _⟩
                    have h := OwnW.set1 HO4.out (by rw [hlen]) hil2 y2
                    have e : N.set i (J1, J2) = (N.set i (J1, x2)).set i (((N.set i (J1, x2))[i]'hil2).1, y2) := by
                      rw [HJ2.out, Int.max_eq_right (by omega), List.getElem_set_self, List.set_set]
                    rw [e]
                    exact h
                  · have HA := hid hA
                    go_wp2_with fail
                    refine Meet.mk' HR6.out rfl ?_
                    refine ⟨?_, HL4.out⟩
                    rw [HJ2.out, Int.max_eq_left (by omega)]
                    exact HO4.out
                clear q2 p2 HO4 HL4
                intro us6 w5 hrel
                obtain ⟨ho, hL⟩ := hrel
                simp only [frameOf, Nat.reduceAdd]
                have HL5 := hid hL
                obtain ⟨L3, hL3⟩ : ∃ L3, L3 = N.set i (J1, J2) := ⟨_, rfl⟩
                rw [← hL3] at ho
                have HN3 : Hid (N.length = L3.length) := hid (by rw [hL3, List.length_set])
                have HJA : Hid (L3.take k ++ L3.drop (k + 1) = joinAt N i k (joinW (N[i]'hil) (N[k]'hkl))) := hid (by
                  have e1 : joinW (N[i]'hil) (N[k]'hkl) = joinW (x1, x2) (y1, y2) := congr (congrArg joinW HX.out) HY.out
                  rw [hL3, e1, HJ1.out, HJ2.out]
                  rfl)
                have HO5 := hid ho
                have HCC := hid (OwnW.len HO5.out)
                clear ho hL hL3
                have hkc : k ≤ c4 := by have := HCC.out; omega
                have hkc1 : k + 1 ≤ N.length := hkl
                have hwk := HWK.out
                go_upto_region 23 with (fail)
                go_wp2_with (at_builtin; go_loud (refine wpList_append_win rfl _ _ 22 rfl 24 Try.underlying22 infoWn (base := w.heap.size) [] rfl (OwnW.nil _ _) (L3.take k) rfl ?c1 (news_take (OwnW.news HO5.out) k) ?c2 ?c3 ?_))
                case c1 => rw [List.length_take, ← HN3.out]; omega
                case c2 => have := HN3.out; have := HLL.out; have := HLL2.out; rw [List.length_take, List.length_nil]; omega
                case c3 => exact HL5.out.size
                intro v6 w6 hA6
                obtain ⟨T, hT⟩ : ∃ T, T = L3.take k := ⟨_, rfl⟩
                have HTL : Hid (T.length = k) := hid (by rw [hT, List.length_take, ← HN3.out]; omega)
                have HTJ : Hid (T ++ L3.drop (k + 1) = joinAt N i k (joinW (N[i]'hil) (N[k]'hkl))) := hid (by rw [hT]; exact HJA.out)
                replace hA6 : Appended w5 w.heap.size 24 2 (.slice none 0 0) T.length (winCells T) v6 w6 := by rw [hT, List.length_take]; exact hA6
                clear hT
                have HL6 := hid (app_later HL5.out (OwnW.nil w.heap.size w5) hA6 (Nat.le_refl _))
                have HK6 := hid (show ∀ j u, (winCells L3)[j]? = some u → w6.cell? ⟨g, j, none⟩ = some u from fun j u hu => hA6.keeps.cell (by simp [Value.ownBlock]) (OwnW.news HO5.out j u hu))
                obtain ⟨a6, c6, rfl⟩ := ownsRow_slice hA6.own
                have HO6 := hid hA6.own
                clear hA6
                by_cases hcc : c4 = k + 1
                · have HS0 : Hid (∀ j u, (winCells (L3.drop (k + 1)))[j]? = some u → w6.cell? ⟨g, 0 + j, none⟩ = some u) := hid (fun j u hu => by
                    have e : L3.drop (k + 1) = [] := List.drop_of_length_le (by rw [← HN3.out]; have := HCC.out; omega)
                    rw [e] at hu
                    cases hu)
                  subst hcc
                  go_wp2_with (at_builtin; go_loud (refine wpList_append_win rfl _ _ 22 rfl 24 Try.underlying22 infoWn (base := w.heap.size) T rfl HO6.out (L3.drop (k + 1)) rfl ?c4 HS0.out ?c5 ?c6 ?_))
                  case c4 => rw [List.length_drop, ← HN3.out]
                  case c5 => have := HN3.out; have := HLL.out; have := HLL2.out; have := HTL.out; rw [List.length_drop]; omega
                  case c6 => exact HL6.out.size
                  intro v7 w7 hA7
                  have HL7 := hid (app_later HL6.out HO6.out hA7 (Nat.le_refl _))
                  have HJ7 := hid (joinAt_same HIK.out hkl (by rw [show meetW (N[i]'hil) (N[k]'hkl) = meetW (x1, x2) (y1, y2) from congr (congrArg meetW HX.out) HY.out]; exact HMM.out))
                  have HF7 := hid (joinAt_full HIK.out hkl HST.out.1)
                  have HQ7 := hid (joinAt_length (L := N) (i := i) (joinW (N[i]'hil) (N[k]'hkl)) hkl)
                  obtain ⟨Z, hZ⟩ : ∃ Z, Z = T ++ L3.drop (k + 1) := ⟨_, rfl⟩
                  replace hA7 : Appended w6 w.heap.size 24 2 (.slice a6 T.length c6) Z.length (winCells Z) v7 w7 := by rw [hZ, List.length_append, List.length_drop]; exact hA7
                  have HZ : Hid (Full Z ∧ SameC Z l ∧ Z.length + 1 = N.length) := hid (by rw [hZ, HTJ.out]; exact ⟨HF7.out, HJ7.out.trans HST.out.2.1, HQ7.out⟩)
                  clear hZ
                  obtain ⟨a7, c7, rfl⟩ := ownsRow_slice hA7.own
                  have HO7 := hid hA7.own
                  clear hA7
                  go_wp2_with fail
                  try simp only [HWK.out]
                  refine Round.mk' HR4.out Hmu4.out rfl ?_ ?_
                  · exact ⟨Z, a7, c7, true, k + 1, rfl, rfl, rfl, HO7.out, HL7.out, HZ.out.1, HZ.out.2.1, by have := HZ.out.2.2; have := HST.out.2.2; omega, fun h => (by cases h), fun _ => ⟨by have := HZ.out.2.2; omega, hkl⟩⟩
                  · rw [Hm5.out, Hm7.out]; simp [truthOf, intOf, slots]; omega
                · have hcn : ¬ c4 - (k + 1) = 0 := by have := HCC.out; omega
                  have hcn2 : ¬ c4 ≤ k + 1 := by have := HCC.out; omega
                  go_wp2_with (at_builtin; go_loud (refine wpList_append_win rfl _ _ 22 rfl 24 Try.underlying22 infoWn (base := w.heap.size) T rfl HO6.out (L3.drop (k + 1)) rfl ?c4 (news_drop HK6.out (k + 1)) ?c5 ?c6 ?_))
                  case c4 => rw [List.length_drop, ← HN3.out]
                  case c5 => have := HN3.out; have := HLL.out; have := HLL2.out; have := HTL.out; rw [List.length_drop]; omega
                  case c6 => exact HL6.out.size
                  intro v7 w7 hA7
                  have HL7 := hid (app_later HL6.out HO6.out hA7 (Nat.le_refl _))
                  have HJ7 := hid (joinAt_same HIK.out hkl (by rw [show meetW (N[i]'hil) (N[k]'hkl) = meetW (x1, x2) (y1, y2) from congr (congrArg meetW HX.out) HY.out]; exact HMM.out))
                  have HF7 := hid (joinAt_full HIK.out hkl HST.out.1)
                  have HQ7 := hid (joinAt_length (L := N) (i := i) (joinW (N[i]'hil) (N[k]'hkl)) hkl)
                  obtain ⟨Z, hZ⟩ : ∃ Z, Z = T ++ L3.drop (k + 1) := ⟨_, rfl⟩
                  replace hA7 : Appended w6 w.heap.size 24 2 (.slice a6 T.length c6) Z.length (winCells Z) v7 w7 := by rw [hZ, List.length_append, List.length_drop]; exact hA7
                  have HZ : Hid (Full Z ∧ SameC Z l ∧ Z.length + 1 = N.length) := hid (by rw [hZ, HTJ.out]; exact ⟨HF7.out, HJ7.out.trans HST.out.2.1, HQ7.out⟩)
                  clear hZ
                  obtain ⟨a7, c7, rfl⟩ := ownsRow_slice hA7.own
                  have HO7 := hid hA7.own
                  clear hA7
                  go_wp2_with fail
                  try simp only [HWK.out]
                  refine Round.mk' HR4.out Hmu4.out rfl ?_ ?_
                  · exact ⟨Z, a7, c7, true, k + 1, rfl, rfl, rfl, HO7.out, HL7.out, HZ.out.1, HZ.out.2.1, by have := HZ.out.2.2; have := HST.out.2.2; omega, fun h => (by cases h), fun _ => ⟨by have := HZ.out.2.2; omega, hkl⟩⟩
                  · rw [Hm5.out, Hm7.out]; simp [truthOf, intOf, slots]; omega
            · go_wp2_with fail
              try simp only [HWI.out]
              refine Round.mk' HR3.out Hmu3.out rfl ?_ ?_
              · refine ⟨N, a4, c4, false, i + 1, rfl, rfl, rfl, HO.out, HL.out, HST.out.1, HST.out.2.1, HST.out.2.2, fun _ => ⟨rfl, HIL.out, fun p q hq hpq hp => ?_⟩, fun h => (by cases h)⟩
                by_cases hpi : p = i
                · subst hpi; exact H5.out q hq HIL.out hpq (by omega)
                · exact H4.out p q hq hpq (by omega)
              · rw [Hk5.out, Hk6.out]; have := HIL.out; simp [truthOf, intOf, slots]; omega
        · have hie : i = M.length := by have := H3.out; omega
          go_wp2_with fail
          refine Round.mk' HR2.out Hmu2.out rfl ?_ ?_
          · exact ⟨M, a3, c3, false, rfl, rfl, HO.out, HL.out, HST.out.1, HST.out.2.1, HST.out.2.2, fun _ => by rw [← hie]; exact H4.out⟩
          · rw [Hh5.out, Hh3.out]; simp [lenOf, truthOf, slots]
    | false =>
      have HMP : Hid (L.Pairwise fun a b => meetW a b = false) := hid (by
        rw [List.pairwise_iff_getElem]
        exact fun p q hp hq hpq => HM.out rfl p q hq hpq hp)
      have HC2 := hid (OwnW.len HO.out)
      clear HM
      go_wp2_with fail
      obtain ⟨R3, hR3⟩ : ∃ RR_ : (Nat → Value) → World → Prop, RR_ = (fun us wy => ∃ (M : List Win) (i : Nat), us 10 = .int .i64 i ∧ 1 ≤ i ∧ i ≤ L.length + 1 ∧ M.length = L.length ∧ OwnW w.heap.size wy (.slice a2 L.length c2) M ∧ M.Perm L ∧ Srt M i ∧ Later w wy) := ⟨_, rfl⟩
      obtain ⟨mu3, hmu3⟩ : ∃ mu : (Nat → Value) → World → Nat, mu = (fun us _ => L.length + 2 - (intOf (us 10)).toNat) := ⟨_, rfl⟩
      have HR3 := hid hR3; have Hmu3 := hid hmu3; clear hR3 hmu3
      refine wp_loop_frame' [false, false, false, false, false, false, false, false, false, false, true, true, true, false, false, false, false, false, false, false, false, false, false, false, false, false, false, false, false, false, false, false, false, false, false, false, false, false, false, false, false, false, false, false, false, false, false, false, false, false, false, false, false, false, false, false, false, false, false, false, false, false, false, false, false, false, false, false, false, false, false, false, false, false, false, false, false, false, false, false, false, false, false, false, false, false, false, false, false, false, false, false, false, false, false, false, false, false, false, false, false, false, false, false, false, false, false, false, false, false, false, false, false, false, false, false, false, false, false, false, false, false, true, true, true, true, true, true, true, true, true, true, true, true, true, true, true, true, true, true, true, true, true, true, true, true, true, true, true, true, true, true, true, true, true, true, true, true, true, true, true, true, true, true] R3 _ mu3 HR3.out ?_ ?_
      · exact ⟨L, 1, rfl, Nat.le_refl _, by omega, rfl, HO.out, List.Perm.refl _, fun p q h1 h2 => by omega, HL.out⟩
      clear HO HL
      intro us3 wy hrel
      obtain ⟨M, i, k10, hi1, hi2, hml, ho, hp, hs, hL⟩ := hrel
      simp only [frameOf, Nat.reduceAdd, k10]
      have Hk10 := hid k10; clear k10
      have HO := hid ho; have HL := hid hL; have HP := hid hp; have HS := hid hs; have HI := hid (And.intro hi1 hi2); have HML := hid hml
      clear ho hL hp hs hi1 hi2 hml
      by_cases hil : i < L.length
      · have HIL := hid hil
        have HWI : Hid (wrap64 ((i : Int) + 1) = ((i + 1 : Nat) : Int)) := hid (by have := HIL.out; have := HLL.out; have := HST.out.2.2; unfold wrap64; omega)
        go_upto_region 30 with (fail)
        go_wp2_with fail
        obtain ⟨R4, hR4⟩ : ∃ RR_ : (Nat → Value) → World → Prop, RR_ = (fun us wv => ∃ (N : List Win) (k : Nat), us 11 = .int .i64 k ∧ k ≤ i ∧ N.length = L.length ∧ OwnW w.heap.size wv (.slice a2 L.length c2) N ∧ N.Perm L ∧ Ins N i k ∧ Later w wv) := ⟨_, rfl⟩
        obtain ⟨mu4, hmu4⟩ : ∃ mu : (Nat → Value) → World → Nat, mu = (fun us _ => (intOf (us 11)).toNat) := ⟨_, rfl⟩
        have HR4 := hid hR4; have Hmu4 := hid hmu4; clear hR4 hmu4
        refine wp_loop_frame' [false, false, false, false, false, false, false, false, false, false, false, true, true, false, false, false, false, false, false, false, false, false, false, false, false, false, false, false, false, false, false, false, false, false, false, false, false, false, false, false, false, false, false, false, false, false, false, false, false, false, false, false, false, false, false, false, false, false, false, false, false, false, false, false, false, false, false, false, false, false, false, false, false, false, false, false, false, false, false, false, false, false, false, false, false, false, false, false, false, false, false, false, false, false, false, false, false, false, false, false, false, false, false, false, false, false, false, false, false, false, false, false, false, false, false, false, false, false, false, false, false, false, false, false, false, false, false, false, false, true, true, true, true, true, true, true, true, true, true, true, true, true, true, true, true, true, true, true, true, true, true, true, true, true, true, true, true, true, true, true, true, true, true, true] R4 _ mu4 HR4.out ?_ ?_
        · exact ⟨M, i, rfl, Nat.le_refl _, HML.out, HO.out, HP.out, ins_start HS.out, HL.out⟩
        clear HO HL HP HS HML hil
        intro us4 wv hrel
        obtain ⟨N, k, k11, hki, hnl, ho, hp, hs, hL⟩ := hrel
        simp only [frameOf, Nat.reduceAdd, k11]
        have Hk11 := hid k11; clear k11
        have HO := hid ho; have HL := hid hL; have HP := hid hp; have HS := hid hs; have HKI := hid hki; have HNL := hid hnl
        clear ho hL hp hs hki hnl
        by_cases hk0 : 0 < k
        · obtain ⟨k1, hk1⟩ : ∃ k1, k1 + 1 = k := ⟨k - 1, by omega⟩
          have hwk : IntKind.i64.wrap ((k : Int) - 1) = (k1 : Int) := by
            rw [show (k : Int) - 1 = (k1 : Int) by omega]
            exact IntWalk.i64_in _ (by have := HKI.out; have := HIL.out; have := HLL.out; have := HST.out.2.2; omega)
          have hwk2 : wrap64 ((k : Int) - 1) = (k1 : Int) := by have := HKI.out; have := HIL.out; have := HLL.out; have := HST.out.2.2; unfold wrap64; omega
          have HK1 := hid hk1
          have HK0 := hid hk0
          have hkl : k < L.length := by have := HKI.out; have := HIL.out; omega
          have hkl1 : k1 < L.length := by omega
          clear hk1
          have hkn : k < N.length := by rw [HNL.out]; exact hkl
          have hkn1 : k1 < N.length := by rw [HNL.out]; exact hkl1
          obtain ⟨g, rfl, hgB, p1, p2, hfr⟩ := OwnW.cells HO.out hkn
          obtain ⟨g', eg, -, q1, q2, -⟩ := OwnW.cells HO.out hkn1
          simp only [Option.some.injEq, Addr.mk.injEq, and_true] at eg
          subst eg
          have HGB := hid hgB; have HFR := hid hfr
          have HKN := hid hkn; have HKN1 := hid hkn1
          clear hgB hfr
          generalize hx : N[k] = x at p1 p2
          generalize hy : N[k1] = y at q1 q2
          have HX := hid hx; have HY := hid hy
          clear hx hy hkn hkn1
          obtain ⟨x1, x2⟩ := x
          obtain ⟨y1, y2⟩ := y
          simp only at p1 p2 q1 q2
          go_upto_region 31 with (fail)
          by_cases hlt : x1 < y1
          · have HLT := hid hlt
            refine wp_region_lex (by kernel_rfl) (by kernel_rfl) Later Later.refl Later.trans (fun _ => none) (fun _ _ _ _ _ h => by cases h) ?_
            simp only [numbered, Nat.reduceAdd]
            refine LexS.out ?_
            iterate 16
              first
              | (refine LexS.skip rfl ?_; simp only [Act.put, List.setIfInBounds_toArray, List.set])
              | (refine LexS.one' rfl rfl ?_
                 apply Exists.intro
                 refine ⟨fun w hR hF => ?_, ?_⟩
                 · have hP := hR
                   repeat (first | replace hP := Later.of_drew hP | replace hP := Later.of_drewN hP | replace hP := Later.of_alloc hP)
                   have hcs := hR.cells
                   have zp1 := hP.cell p1
                   have zp2 := hP.cell p2
                   have zq1 := hP.cell q1
                   have zq2 := hP.cell q2
                   clear hR hF hP
                   go_simp
                   first | done | rfl
                 simp only [Act.put, List.setIfInBounds_toArray, List.set])
            refine LexS.nil ?_
            intro w1 hR1 hF9
            clear hF9
            repeat (first | replace hR1 := Later.of_drew hR1 | replace hR1 := Later.of_drewN hR1 | replace hR1 := Later.of_alloc hR1)
            have HL1 := hid (Later.trans _ _ _ HL.out hR1)
            have HO1 := hid (owns_at HO.out hR1)
            replace p1 := hR1.cell p1
            replace p2 := hR1.cell p2
            replace q1 := hR1.cell q1
            replace q2 := hR1.cell q2
            clear hR1 HL HO
            go_upto_region 34 with (fail)
            obtain ⟨T, hT⟩ : ∃ T, T = w1.heap.size := ⟨_, rfl⟩
            obtain ⟨w2, hw2⟩ : ∃ w2, w2 = w1.alloc (.cells #[.int .i64 x1, .int .i64 x2] 24 (0, 0)) := ⟨_, rfl⟩
            have hT2 : w2.heap[T]? = some (.cells #[.int .i64 x1, .int .i64 x2] 24 (0, 0)) := by rw [hw2, hT]; exact obj_new _ _
            have hA2 : Later w1 w2 := by rw [hw2]; exact Later.alloc _ _
            have HGT : Hid (g ≠ T) := hid (by rintro rfl; have := (ownb HO1.out g rfl).2; omega)
            rw [← hw2, ← hT]
            have HL2 := hid (Later.trans _ _ _ HL1.out hA2)
            have HO2 := hid (owns_at HO1.out hA2)
            replace p1 := hA2.cell p1
            replace p2 := hA2.cell p2
            replace q1 := hA2.cell q1
            replace q2 := hA2.cell q2
            clear hw2 hT hA2 HL1 HO1
            have z1 := OwnW.free HO2.out (k * 2)
            have z2 := OwnW.free HO2.out (k * 2 + 1)
            have HT2 := hid hT2
            clear hT2
            go_upto_region 35 with (fail)
            obtain ⟨w3, hw3⟩ : ∃ w3, w3 = (w2.setCell ⟨g, k * 2, none⟩ (.int .i64 y1)).setCell ⟨g, k * 2 + 1, none⟩ (.int .i64 y2) := ⟨_, rfl⟩
            rw [← hw3]
            have HO3 : Hid (OwnW w.heap.size w3 (.slice (some ⟨g, 0, none⟩) L.length c2) (N.set k (y1, y2))) := hid (by rw [hw3]; exact OwnW.set HO2.out HNL.out.symm HKN.out (y1, y2))
            have HK3 : Hid (Keeps (fun b => b ≠ g) w2 w3) := hid (by rw [hw3]; exact ((Keeps.refl (fun b => b ≠ g) w2).setCell (p := ⟨g, k * 2, none⟩) (.inl fun h => h rfl) _).setCell (p := ⟨g, k * 2 + 1, none⟩) (.inl fun h => h rfl) _)
            have HL3 : Hid (Later w w3) := hid (by rw [hw3]; exact (((HL2.out.keeps (fun _ => True)).setCell (p := ⟨g, k * 2, none⟩) (.inr HGB.out) _).setCell (p := ⟨g, k * 2 + 1, none⟩) (.inr HGB.out) _).later)
            have hT3 := HK3.out.obj (Ne.symm HGT.out) HT2.out
            have t0 := cell_obj (i := 0) hT3 (v := .int .i64 x1) rfl
            have t1 := cell_obj (i := 1) hT3 (v := .int .i64 x2) rfl
            have hl3 : k1 < (N.set k (y1, y2)).length := by rw [List.length_set]; exact HKN1.out
            obtain ⟨g', eg, -, r1, r2, -⟩ := OwnW.cells HO3.out hl3
            simp only [Option.some.injEq, Addr.mk.injEq, and_true] at eg
            subst eg
            have u1 := OwnW.free HO3.out (k1 * 2)
            have u2 := OwnW.free HO3.out (k1 * 2 + 1)
            have HSW : Hid ((N.set k (y1, y2)).set k1 (x1, x2) = swapAt N k (N[k - 1]'(by have := HKN.out; omega)) (N[k]'HKN.out)) := hid (by
              have e0 : k - 1 = k1 := by have := HK1.out; omega
              unfold swapAt
              have e1 : N[k - 1]'(by have := HKN.out; omega) = (y1, y2) := by
                have : N[k - 1]'(by have := HKN.out; omega) = N[k1]'HKN1.out := by congr 1
                exact this.trans HY.out
              rw [e1, e0]
              exact congrArg (fun z => (N.set k (y1, y2)).set k1 z) HX.out.symm)
            clear hw3 hT3 p1 p2 q1 q2 z1 z2 HO2 HL2 HT2 HK3
            go_upto_region 32 with (fail)
            obtain ⟨w4, hw4⟩ : ∃ w4, w4 = (w3.setCell ⟨g, k1 * 2, none⟩ (.int .i64 x1)).setCell ⟨g, k1 * 2 + 1, none⟩ (.int .i64 x2) := ⟨_, rfl⟩
            rw [← hw4]
            have HO4 : Hid (OwnW w.heap.size w4 (.slice (some ⟨g, 0, none⟩) L.length c2) (swapAt N k (N[k - 1]'(by have := HKN.out; omega)) (N[k]'HKN.out))) := hid (by rw [← HSW.out, hw4]; exact OwnW.set HO3.out (by rw [List.length_set]; exact HNL.out.symm) hl3 (x1, x2))
            have HL4 : Hid (Later w w4) := hid (by rw [hw4]; exact (((HL3.out.keeps (fun _ => True)).setCell (p := ⟨g, k1 * 2, none⟩) (.inr HGB.out) _).setCell (p := ⟨g, k1 * 2 + 1, none⟩) (.inr HGB.out) _).later)
            clear hw4 t0 t1 r1 r2 u1 u2 hl3
            go_wp2_with fail
            try simp only [hwk2]
            refine Round.mk' HR4.out Hmu4.out rfl ?_ ?_
            · refine ⟨swapAt N k (N[k - 1]'(by have := HKN.out; omega)) (N[k]'HKN.out), k1, rfl, by have := HKI.out; have := HK1.out; omega, by rw [swap_length]; exact HNL.out, HO4.out, (swap_perm HK0.out HKN.out).trans HP.out, ?_, HL4.out⟩
              have e0 : k1 = k - 1 := by have := HK1.out; omega
              have e1 : (N[k]'HKN.out).1 = x1 := congrArg Prod.fst HX.out
              have e2 : (N[k - 1]'(by have := HKN.out; omega)).1 = y1 := by
                have : N[k - 1]'(by have := HKN.out; omega) = N[k1]'HKN1.out := by congr 1; exact e0.symm
                rw [this]
                exact congrArg Prod.fst HY.out
              rw [e0]
              exact ins_swap HS.out HK0.out HKI.out HKN.out (by rw [e1, e2]; exact HLT.out)
            · rw [Hk11.out]; have := HK1.out; simp [intOf, slots]; omega
          · have HLT := hid hlt
            refine wp_region_lex (by kernel_rfl) (by kernel_rfl) Later Later.refl Later.trans (fun _ => none) (fun _ _ _ _ _ h => by cases h) ?_
            simp only [numbered, Nat.reduceAdd]
            refine LexS.out ?_
            iterate 16
              first
              | (refine LexS.skip rfl ?_; simp only [Act.put, List.setIfInBounds_toArray, List.set])
              | (refine LexS.one' rfl rfl ?_
                 apply Exists.intro
                 refine ⟨fun w hR hF => ?_, ?_⟩
                 · have hP := hR
                   repeat (first | replace hP := Later.of_drew hP | replace hP := Later.of_drewN hP | replace hP := Later.of_alloc hP)
                   have hcs := hR.cells
                   have zp1 := hP.cell p1
                   have zp2 := hP.cell p2
                   have zq1 := hP.cell q1
                   have zq2 := hP.cell q2
                   clear hR hF hP
                   go_simp
                   first | done | rfl
                 simp only [Act.put, List.setIfInBounds_toArray, List.set])
            refine LexS.nil ?_
            intro w1 hR1 hF9
            clear hF9
            repeat (first | replace hR1 := Later.of_drew hR1 | replace hR1 := Later.of_drewN hR1 | replace hR1 := Later.of_alloc hR1)
            have HL1 := hid (Later.trans _ _ _ HL.out hR1)
            have HO1 := hid (owns_at HO.out hR1)
            clear hR1 HL HO p1 p2 q1 q2
            go_wp2_with fail
            try simp only [HWI.out]
            refine Round.mk' HR3.out Hmu3.out rfl ?_ ?_
            · refine ⟨N, i + 1, rfl, by omega, by have := HIL.out; omega, HNL.out, HO1.out, HP.out, ins_end HS.out (.inr ?_), HL1.out⟩
              rw [show k - 1 = k1 by have := HK1.out; omega, key_at HKN.out, key_at HKN1.out]
              have e1 : (N[k]'HKN.out).1 = x1 := congrArg Prod.fst HX.out
              have e2 : (N[k1]'HKN1.out).1 = y1 := congrArg Prod.fst HY.out
              rw [e1, e2]
              have := HLT.out
              omega
            · rw [Hk10.out]; have := HIL.out; simp [intOf, slots]; omega
        · obtain rfl : k = 0 := by omega
          go_upto_region 31 with (fail)
          refine wp_region_lex (by kernel_rfl) (by kernel_rfl) Later Later.refl Later.trans (fun _ => none) (fun _ _ _ _ _ h => by cases h) ?_
          simp only [numbered, Nat.reduceAdd]
          refine LexS.out ?_
          iterate 16
            first
            | (refine LexS.skip rfl ?_; simp only [Act.put, List.setIfInBounds_toArray, List.set])
            | (refine LexS.one' rfl rfl ?_
               apply Exists.intro
               refine ⟨fun w hR hF => ?_, ?_⟩
               · have hP := hR
                 repeat (first | replace hP := Later.of_drew hP | replace hP := Later.of_drewN hP | replace hP := Later.of_alloc hP)
                 have hcs := hR.cells
                 clear hR hF hP
                 go_simp
                 first | done | rfl
               simp only [Act.put, List.setIfInBounds_toArray, List.set])
          refine LexS.nil ?_
          intro w1 hR1 hF9
          clear hF9
          repeat (first | replace hR1 := Later.of_drew hR1 | replace hR1 := Later.of_drewN hR1 | replace hR1 := Later.of_alloc hR1)
          have HL1 := hid (Later.trans _ _ _ HL.out hR1)
          have HO1 := hid (owns_at HO.out hR1)
          clear hR1 HL HO
          go_wp2_with fail
          try simp only [HWI.out]
          refine Round.mk' HR3.out Hmu3.out rfl ?_ ?_
          · exact ⟨N, i + 1, rfl, by omega, by have := HIL.out; omega, HNL.out, HO1.out, HP.out, ins_end HS.out (.inl rfl), HL1.out⟩
          · rw [Hk10.out]; have := HIL.out; simp [intOf, slots]; omega
      · go_wp2_with fail
        go_ret
        refine ⟨_, M, rfl, HO.out, ref_merged HST.out.1 HST.out.2.1 HMP.out HP.out (fun p q h1 h2 => HS.out p q h1 (by have := HML.out; omega)), by rw [HML.out]; exact HST.out.2.2, HL.out⟩
end Go.Proofs.Ythfgjmdmcoogpaa
