/-
  PROVED HERE: the contract of the document's Take of a gate, at a mark.
-/
import Derived.Test.YthfgjmdmcoogpaaDoorRefTime
namespace Go.Proofs.YthfgjmdmcoogpaaDoor
open Go.RowKit

theorem RAt.set_mark {w : World} {R A M cA cM n : Nat} {g : Rg} (h : RAt w R A M cA cM g) (hd : R ≠ A ∧ R ≠ M ∧ A ≠ M) (hn : n < g.ms.length) (t : Int) : RAt (w.setCell ⟨M, n, none⟩ (.int .i64 t)) R A M cA cM { g with ms := g.ms.set n t } := by
  refine ⟨?_, h.times.other (p := ⟨M, n, none⟩) hd.2.2 _, h.marks.set hn t⟩
  rw [Below.heap_setCell _ ⟨M, n, none⟩ _ _ hd.2.1]
  simp only [List.length_set]
  exact h.obj
theorem zer_length (l : List Int) (n : Nat) (h : n ≤ l.length) : (zer l n).length = l.length := by simp [zer]; omega
theorem zer_zero (l : List Int) : zer l 0 = l := by simp [zer]
theorem zer_all (l : List Int) : zer l l.length = List.replicate l.length 0 := by simp [zer]
theorem zer_set (l : List Int) (n : Nat) (h : n < l.length) : (zer l n).set n 0 = zer l (n + 1) := by
  unfold zer
  rw [List.set_append_right _ _ (by simp), List.length_replicate, Nat.sub_self, List.drop_eq_getElem_cons h, List.set_cons_zero, List.replicate_succ', List.append_assoc]
  rfl
theorem any_false {l : List Int} {p : Int → Bool} (h : ∀ j (hj : j < l.length), p l[j] = false) : l.any p = false := by
  rw [Bool.eq_false_iff]
  intro ha
  obtain ⟨x, hx, hp⟩ := List.any_eq_true.1 ha
  obtain ⟨j, hj, rfl⟩ := List.getElem_of_mem hx
  rw [h j hj] at hp
  cases hp
theorem any_at {l : List Int} {p : Int → Bool} {j : Nat} (hj : j < l.length) (h : p l[j] = true) : l.any p = true := List.any_eq_true.2 ⟨_, List.getElem_mem hj, h⟩

set_option maxRecDepth 100000 in
set_option maxHeartbeats 4000000 in
theorem ref_take_mark (R A M cA cM : Nat) (g : Rg) (k : Int) (e : Elem) (v : Value) (w : World) (k3 : e.kind = 3) (ho : rOpen g k = true) (h : RAt w R A M cA cM g) (hd : R ≠ A ∧ R ≠ M ∧ A ≠ M) (hl2 : g.ms.length ≤ 64) (hv : IsVals w v e.row.vals) :
    Calls Tryd.prog 32 #[.pointer (some ⟨R, 0, none⟩), .int .i64 k, .agg #[.int .i64 e.kind, .int .i64 e.row.time, v, .int .i64 e.time, .int .i64 e.mark]] w (RTakeTo w R A M cA cM (rTake g k e)) := by
  obtain ⟨n, rfl, hlt, -⟩ := rOpen_lt ho
  have HO := hid ho; have HG := hid h; have HD := hid hd
  obtain ⟨va, vc, rfl, -⟩ := hv
  have hnn : (0 : Int) ≤ n := by omega
  have hnt : (n : Int) < g.ms.length := by omega
  have hMs : M < w.heap.size := cell_lt (h.marks.at_ hlt)
  clear ho h hd
  have go : ∀ (o : Obj) (w1 : World), Later (w.alloc o) w1 → RAt w1 R A M cA cM g ∧ Later w w1 := fun o w1 hL => ⟨HG.out.later (Later.of_alloc hL), Later.of_alloc hL⟩
  by_cases m1 : e.mark < 1
  · have HR : Hid (rTake g n e = (g, 6, [])) := hid (by simp [rTake, HO.out, k3, m1])
    go_enter Tryd.func32, Tryd.ntmps32
    go_wp2_with fail
    refine (ref_gate_open R A M cA cM g n _ (HG.out.later (Later.alloc _ _)) hl2).mono ?_
    rintro e' w1 ⟨rfl, hL1⟩
    rw [HO.out]
    obtain ⟨hG1, hLw⟩ := go _ w1 hL1
    have hE := hL1.obj (obj_new w _)
    have e0 := cell_obj (i := 0) hE rfl
    have e4 := cell_obj (i := 4) hE rfl
    clear hE hL1 HG go
    go_wp2_with fail
    go_ret2
    rw [HR.out]
    exact ⟨_, rfl, hG1, ElemsOwn.nil _ _, hLw.keeps _⟩
  · have HR : Hid (rTake g n e = if g.ms.any (fun m => m != 0 && m != e.mark) = true then (g, 6, []) else if allMarks g.ms n e.mark g.ms.length = true then ({ g with ms := List.replicate g.ms.length 0 }, 0, [⟨3, ⟨0, []⟩, 0, e.mark⟩])
      else ({ g with ms := g.ms.set n e.mark }, 0, [])) := hid (by simp [rTake, HO.out, k3, m1])
    go_enter Tryd.func32, Tryd.ntmps32
    go_wp2_with fail
    refine (ref_gate_open R A M cA cM g n _ (HG.out.later (Later.alloc _ _)) hl2).mono ?_
    rintro e' w1 ⟨rfl, hL1⟩
    rw [HO.out]
    obtain ⟨hG1, hLw⟩ := go _ w1 hL1
    have hE := hL1.obj (obj_new w _)
    have e0 := cell_obj (i := 0) hE rfl
    have e4 := cell_obj (i := 4) hE rfl
    have HE1 := hid hE; have HG1 := hid hG1; have HLw := hid hLw
    clear hE hG1 hLw hL1 HG go
    go_wp2_with fail
    clear e0 e4
    obtain ⟨R1, hR1⟩ : ∃ RR_ : (Nat → Value) → World → Prop, RR_ = (fun us wr => ∃ j : Nat, j ≤ g.ms.length ∧ us 13 = .int .i64 j ∧ us 12 = .bool (allMarks g.ms n e.mark j) ∧ Hid (∀ i (hi : i < g.ms.length), i < j → (g.ms[i] != 0 && g.ms[i] != e.mark) = false) ∧ Later w1 wr) := ⟨_, rfl⟩
    obtain ⟨mu1, hmu1⟩ : ∃ mu : (Nat → Value) → World → Nat, mu = (fun us _ => g.ms.length - (intOf (us 13)).toNat) := ⟨_, rfl⟩
    have HR1 := hid hR1; have Hmu1 := hid hmu1; clear hR1 hmu1
    refine wp_loop_frame' [false, false, false, false, false, false, true, true, false, false, false, false, true, true, false, false, false, false, false, false, false, false, false, false, false, false, false, false, false, false, false, false, false, false, false, false, false, false, false, false, false, false, false, false, false, false, false, false, false, false, false, false, false, false, false, false, false, false, false, false, false, false, false, false, false, false, false, false, false, false, false, false, false, false, false, false, false, false, false, false, false, false, false, false, false, false, false, false, false, false, false, false, false, false, false, false, false, false, false, false, true, true, true, true, true, true, true, true, true, true, true, true, true, true, true, true, true, true, true, true, true, true, true, true, true, true, true, true, true, true, true, true, true, true, true, true, true, true, true, true, true, true, true, true, true, true, true] R1 _ mu1 HR1.out ?_ ?_
    · exact ⟨0, by omega, rfl, rfl, hid fun i hi h => by omega, Later.refl _⟩
    ·
      intro us1 wr hrel
      obtain ⟨j, hj, h13, h12, hq, hL⟩ := hrel
      simp only [frameOf, Nat.reduceAdd, h13, h12]
      have Hh13 := hid h13; clear h13
      have Hh12 := hid h12; clear h12
      have HL := hid hL
      have r0 := cell_obj (i := 1) (HG1.out.later hL).obj rfl
      have e4 := cell_obj (i := 4) (hL.obj HE1.out) rfl
      have hj0 : (0 : Int) ≤ j := by omega
      by_cases hjt : j < g.ms.length
      · have q4 := (HG1.out.later hL).marks.at_ hjt
        have HA : Hid (allMarks g.ms n e.mark (j + 1) = (allMarks g.ms n e.mark j && (j == n || g.ms[j] == e.mark))) := hid (by simp [allMarks, allUpto, List.getElem?_eq_getElem hjt])
        have HY : Hid (∀ y, y = g.ms[j] → (y != 0 && y != e.mark) = true → g.ms.any (fun m => m != 0 && m != e.mark) = true) := hid (fun y hy h => any_at hjt (hy ▸ h))
        have HZ : Hid (∀ y, y = g.ms[j] → (y != 0 && y != e.mark) = false → ∀ i (hi : i < g.ms.length), i < j + 1 → (g.ms[i] != 0 && g.ms[i] != e.mark) = false) := hid (fun y hy h i hi hij => by
          by_cases he : i = j
          · subst he; rw [← hy]; exact h
          · exact hq.out i hi (by omega))
        obtain ⟨y, hy⟩ : ∃ y, y = g.ms[j] := ⟨_, rfl⟩
        rw [← hy] at q4 HA
        have HYY := HY.out y hy; have HZZ := HZ.out y hy
        have HY2 := hid HYY; have HZ2 := hid HZZ
        clear HY HZ HYY HZZ hy hL hq
        obtain ⟨am, ham⟩ : ∃ am, am = allMarks g.ms n e.mark j := ⟨_, rfl⟩
        simp only [← ham] at HA ⊢
        clear ham
        by_cases hy0 : y = 0
        · have hb : (y != 0) = false := by simp [hy0]
          have hb2 : (y == e.mark) = false := by simp [hy0]; omega
          clear hy0
          have HYF : Hid ((y != 0 && y != e.mark) = false) := hid (by simp [hb])
          cases am with
          | false =>
            simp only [Bool.false_and] at HA
            go_wp2_with fail
            refine wp_region_lex (by kernel_rfl) (by kernel_rfl) Later Later.refl Later.trans (fun _ => none) (fun _ _ _ _ _ h => by cases h) ?_
            simp only [numbered, Nat.reduceAdd]
            refine LexS.out ?_
            iterate 20
              first
              | (refine LexS.skip rfl ?_; simp only [Act.put, List.setIfInBounds_toArray, List.set])
              | (refine LexS.one' rfl rfl ?_
                 apply Exists.intro
                 refine ⟨fun w hR hF => ?_, ?_⟩
                 · have hP := hR
                   repeat (first | replace hP := Later.of_drew hP | replace hP := Later.of_drewN hP | replace hP := Later.of_alloc hP)
                   have hcs := hR.cells
                   have zr0 := hP.cell r0
                   have zq4 := hP.cell q4
                   have ze4 := hP.cell e4
                   clear hR hF hP
                   go_simp
                   first | done | rfl
                 simp only [Act.put, List.setIfInBounds_toArray, List.set])
            refine LexS.nil ?_
            intro w2 hR2 hF9
            clear hF9
            repeat (first | replace hR2 := Later.of_drew hR2 | replace hR2 := Later.of_drewN hR2 | replace hR2 := Later.of_alloc hR2)
            replace r0 := hR2.cell r0
            replace q4 := hR2.cell q4
            replace e4 := hR2.cell e4
            have HR2 := hid hR2
            clear hR2
            go_wp2_with fail
            refine wp_region_lex (by kernel_rfl) (by kernel_rfl) Later Later.refl Later.trans (fun _ => none) (fun _ _ _ _ _ h => by cases h) ?_
            simp only [numbered, Nat.reduceAdd]
            refine LexS.out ?_
            iterate 19
              first
              | (refine LexS.skip rfl ?_; simp only [Act.put, List.setIfInBounds_toArray, List.set])
              | (refine LexS.one' rfl rfl ?_
                 apply Exists.intro
                 refine ⟨fun w hR hF => ?_, ?_⟩
                 · have hP := hR
                   repeat (first | replace hP := Later.of_drew hP | replace hP := Later.of_drewN hP | replace hP := Later.of_alloc hP)
                   have hcs := hR.cells
                   have zr0 := hP.cell r0
                   have zq4 := hP.cell q4
                   have ze4 := hP.cell e4
                   clear hR hF hP
                   go_simp
                   first | done | rfl
                 simp only [Act.put, List.setIfInBounds_toArray, List.set])
            refine LexS.nil ?_
            intro w3 hR3 hF9
            clear hF9
            repeat (first | replace hR3 := Later.of_drew hR3 | replace hR3 := Later.of_drewN hR3 | replace hR3 := Later.of_alloc hR3)
            clear r0 q4 e4
            go_wp2_with fail
            refine Round.mk' HR1.out Hmu1.out rfl ?_ ?_
            · exact ⟨j + 1, by omega, by go_num, by rw [HA.out]; rfl, hid (HZ2.out HYF.out), Later.trans _ _ _ HL.out (Later.trans _ _ _ HR2.out hR3)⟩
            · rw [Hh13.out]; simp [intOf, slots]; omega
          | true =>
            by_cases hjn : j = n
            ·
              have hb3 : ((j : Int) == n) = true := by simp [hjn]
              have hb4 : (j == n) = true := by simp [hjn]
              simp only [hb4, Bool.true_and, Bool.true_or] at HA
              clear hjn
              go_wp2_with fail
              refine wp_region_lex (by kernel_rfl) (by kernel_rfl) Later Later.refl Later.trans (fun _ => none) (fun _ _ _ _ _ h => by cases h) ?_
              simp only [numbered, Nat.reduceAdd]
              refine LexS.out ?_
              iterate 20
                first
                | (refine LexS.skip rfl ?_; simp only [Act.put, List.setIfInBounds_toArray, List.set])
                | (refine LexS.one' rfl rfl ?_
                   apply Exists.intro
                   refine ⟨fun w hR hF => ?_, ?_⟩
                   · have hP := hR
                     repeat (first | replace hP := Later.of_drew hP | replace hP := Later.of_drewN hP | replace hP := Later.of_alloc hP)
                     have hcs := hR.cells
                     have zr0 := hP.cell r0
                     have zq4 := hP.cell q4
                     have ze4 := hP.cell e4
                     clear hR hF hP
                     go_simp
                     first | done | rfl
                   simp only [Act.put, List.setIfInBounds_toArray, List.set])
              refine LexS.nil ?_
              intro w2 hR2 hF9
              clear hF9
              repeat (first | replace hR2 := Later.of_drew hR2 | replace hR2 := Later.of_drewN hR2 | replace hR2 := Later.of_alloc hR2)
              replace r0 := hR2.cell r0
              replace q4 := hR2.cell q4
              replace e4 := hR2.cell e4
              have HR2 := hid hR2
              clear hR2
              go_wp2_with fail
              refine wp_region_lex (by kernel_rfl) (by kernel_rfl) Later Later.refl Later.trans (fun _ => none) (fun _ _ _ _ _ h => by cases h) ?_
              simp only [numbered, Nat.reduceAdd]
              refine LexS.out ?_
              iterate 19
                first
                | (refine LexS.skip rfl ?_; simp only [Act.put, List.setIfInBounds_toArray, List.set])
                | (refine LexS.one' rfl rfl ?_
                   apply Exists.intro
                   refine ⟨fun w hR hF => ?_, ?_⟩
                   · have hP := hR
                     repeat (first | replace hP := Later.of_drew hP | replace hP := Later.of_drewN hP | replace hP := Later.of_alloc hP)
                     have hcs := hR.cells
                     have zr0 := hP.cell r0
                     have zq4 := hP.cell q4
                     have ze4 := hP.cell e4
                     clear hR hF hP
                     go_simp
                     first | done | rfl
                   simp only [Act.put, List.setIfInBounds_toArray, List.set])
              refine LexS.nil ?_
              intro w3 hR3 hF9
              clear hF9
              repeat (first | replace hR3 := Later.of_drew hR3 | replace hR3 := Later.of_drewN hR3 | replace hR3 := Later.of_alloc hR3)
              clear r0 q4 e4
              go_wp2_with fail
              refine Round.mk' HR1.out Hmu1.out rfl ?_ ?_
              · exact ⟨j + 1, by omega, by go_num, by rw [HA.out]; rfl, hid (HZ2.out HYF.out), Later.trans _ _ _ HL.out (Later.trans _ _ _ HR2.out hR3)⟩
              · rw [Hh13.out]; simp [intOf, slots]; omega
            ·
              have hb3 : ((j : Int) == n) = false := by simp; omega
              have hb4 : (j == n) = false := by simp [hjn]
              simp only [hb4, Bool.true_and, Bool.false_or, hb2] at HA
              clear hjn
              go_wp2_with fail
              refine wp_region_lex (by kernel_rfl) (by kernel_rfl) Later Later.refl Later.trans (fun _ => none) (fun _ _ _ _ _ h => by cases h) ?_
              simp only [numbered, Nat.reduceAdd]
              refine LexS.out ?_
              iterate 20
                first
                | (refine LexS.skip rfl ?_; simp only [Act.put, List.setIfInBounds_toArray, List.set])
                | (refine LexS.one' rfl rfl ?_
                   apply Exists.intro
                   refine ⟨fun w hR hF => ?_, ?_⟩
                   · have hP := hR
                     repeat (first | replace hP := Later.of_drew hP | replace hP := Later.of_drewN hP | replace hP := Later.of_alloc hP)
                     have hcs := hR.cells
                     have zr0 := hP.cell r0
                     have zq4 := hP.cell q4
                     have ze4 := hP.cell e4
                     clear hR hF hP
                     go_simp
                     first | done | rfl
                   simp only [Act.put, List.setIfInBounds_toArray, List.set])
              refine LexS.nil ?_
              intro w2 hR2 hF9
              clear hF9
              repeat (first | replace hR2 := Later.of_drew hR2 | replace hR2 := Later.of_drewN hR2 | replace hR2 := Later.of_alloc hR2)
              replace r0 := hR2.cell r0
              replace q4 := hR2.cell q4
              replace e4 := hR2.cell e4
              have HR2 := hid hR2
              clear hR2
              go_wp2_with fail
              refine wp_region_lex (by kernel_rfl) (by kernel_rfl) Later Later.refl Later.trans (fun _ => none) (fun _ _ _ _ _ h => by cases h) ?_
              simp only [numbered, Nat.reduceAdd]
              refine LexS.out ?_
              iterate 19
                first
                | (refine LexS.skip rfl ?_; simp only [Act.put, List.setIfInBounds_toArray, List.set])
                | (refine LexS.one' rfl rfl ?_
                   apply Exists.intro
                   refine ⟨fun w hR hF => ?_, ?_⟩
                   · have hP := hR
                     repeat (first | replace hP := Later.of_drew hP | replace hP := Later.of_drewN hP | replace hP := Later.of_alloc hP)
                     have hcs := hR.cells
                     have zr0 := hP.cell r0
                     have zq4 := hP.cell q4
                     have ze4 := hP.cell e4
                     clear hR hF hP
                     go_simp
                     first | done | rfl
                   simp only [Act.put, List.setIfInBounds_toArray, List.set])
              refine LexS.nil ?_
              intro w3 hR3 hF9
              clear hF9
              repeat (first | replace hR3 := Later.of_drew hR3 | replace hR3 := Later.of_drewN hR3 | replace hR3 := Later.of_alloc hR3)
              clear r0 q4 e4
              go_wp2_with fail
              refine Round.mk' HR1.out Hmu1.out rfl ?_ ?_
              · exact ⟨j + 1, by omega, by go_num, by rw [HA.out]; rfl, hid (HZ2.out HYF.out), Later.trans _ _ _ HL.out (Later.trans _ _ _ HR2.out hR3)⟩
              · rw [Hh13.out]; simp [intOf, slots]; omega
        · have hb : (y != 0) = true := by simp [hy0]
          by_cases hye : y = e.mark
          · have hb1 : (y != e.mark) = false := by simp [hye]
            have hb2 : (y == e.mark) = true := by simp [hye]
            clear hye
            have HYF : Hid ((y != 0 && y != e.mark) = false) := hid (by simp [hb1])
            cases am with
            | false =>
              simp only [Bool.false_and] at HA
              go_wp2_with fail
              refine wp_region_lex (by kernel_rfl) (by kernel_rfl) Later Later.refl Later.trans (fun _ => none) (fun _ _ _ _ _ h => by cases h) ?_
              simp only [numbered, Nat.reduceAdd]
              refine LexS.out ?_
              iterate 20
                first
                | (refine LexS.skip rfl ?_; simp only [Act.put, List.setIfInBounds_toArray, List.set])
                | (refine LexS.one' rfl rfl ?_
                   apply Exists.intro
                   refine ⟨fun w hR hF => ?_, ?_⟩
                   · have hP := hR
                     repeat (first | replace hP := Later.of_drew hP | replace hP := Later.of_drewN hP | replace hP := Later.of_alloc hP)
                     have hcs := hR.cells
                     have zr0 := hP.cell r0
                     have zq4 := hP.cell q4
                     have ze4 := hP.cell e4
                     clear hR hF hP
                     go_simp
                     first | done | rfl
                   simp only [Act.put, List.setIfInBounds_toArray, List.set])
              refine LexS.nil ?_
              intro w2 hR2 hF9
              clear hF9
              repeat (first | replace hR2 := Later.of_drew hR2 | replace hR2 := Later.of_drewN hR2 | replace hR2 := Later.of_alloc hR2)
              replace r0 := hR2.cell r0
              replace q4 := hR2.cell q4
              replace e4 := hR2.cell e4
              have HR2 := hid hR2
              clear hR2
              go_wp2_with fail
              refine wp_region_lex (by kernel_rfl) (by kernel_rfl) Later Later.refl Later.trans (fun _ => none) (fun _ _ _ _ _ h => by cases h) ?_
              simp only [numbered, Nat.reduceAdd]
              refine LexS.out ?_
              iterate 19
                first
                | (refine LexS.skip rfl ?_; simp only [Act.put, List.setIfInBounds_toArray, List.set])
                | (refine LexS.one' rfl rfl ?_
                   apply Exists.intro
                   refine ⟨fun w hR hF => ?_, ?_⟩
                   · have hP := hR
                     repeat (first | replace hP := Later.of_drew hP | replace hP := Later.of_drewN hP | replace hP := Later.of_alloc hP)
                     have hcs := hR.cells
                     have zr0 := hP.cell r0
                     have zq4 := hP.cell q4
                     have ze4 := hP.cell e4
                     clear hR hF hP
                     go_simp
                     first | done | rfl
                   simp only [Act.put, List.setIfInBounds_toArray, List.set])
              refine LexS.nil ?_
              intro w3 hR3 hF9
              clear hF9
              repeat (first | replace hR3 := Later.of_drew hR3 | replace hR3 := Later.of_drewN hR3 | replace hR3 := Later.of_alloc hR3)
              clear r0 q4 e4
              go_wp2_with fail
              refine Round.mk' HR1.out Hmu1.out rfl ?_ ?_
              · exact ⟨j + 1, by omega, by go_num, by rw [HA.out]; rfl, hid (HZ2.out HYF.out), Later.trans _ _ _ HL.out (Later.trans _ _ _ HR2.out hR3)⟩
              · rw [Hh13.out]; simp [intOf, slots]; omega
            | true =>
              by_cases hjn : j = n
              ·
                have hb3 : ((j : Int) == n) = true := by simp [hjn]
                have hb4 : (j == n) = true := by simp [hjn]
                simp only [hb4, Bool.true_and, Bool.true_or] at HA
                clear hjn
                go_wp2_with fail
                refine wp_region_lex (by kernel_rfl) (by kernel_rfl) Later Later.refl Later.trans (fun _ => none) (fun _ _ _ _ _ h => by cases h) ?_
                simp only [numbered, Nat.reduceAdd]
                refine LexS.out ?_
                iterate 20
                  first
                  | (refine LexS.skip rfl ?_; simp only [Act.put, List.setIfInBounds_toArray, List.set])
                  | (refine LexS.one' rfl rfl ?_
                     apply Exists.intro
                     refine ⟨fun w hR hF => ?_, ?_⟩
                     · have hP := hR
                       repeat (first | replace hP := Later.of_drew hP | replace hP := Later.of_drewN hP | replace hP := Later.of_alloc hP)
                       have hcs := hR.cells
                       have zr0 := hP.cell r0
                       have zq4 := hP.cell q4
                       have ze4 := hP.cell e4
                       clear hR hF hP
                       go_simp
                       first | done | rfl
                     simp only [Act.put, List.setIfInBounds_toArray, List.set])
                refine LexS.nil ?_
                intro w2 hR2 hF9
                clear hF9
                repeat (first | replace hR2 := Later.of_drew hR2 | replace hR2 := Later.of_drewN hR2 | replace hR2 := Later.of_alloc hR2)
                replace r0 := hR2.cell r0
                replace q4 := hR2.cell q4
                replace e4 := hR2.cell e4
                have HR2 := hid hR2
                clear hR2
                go_wp2_with fail
                refine wp_region_lex (by kernel_rfl) (by kernel_rfl) Later Later.refl Later.trans (fun _ => none) (fun _ _ _ _ _ h => by cases h) ?_
                simp only [numbered, Nat.reduceAdd]
                refine LexS.out ?_
                iterate 19
                  first
                  | (refine LexS.skip rfl ?_; simp only [Act.put, List.setIfInBounds_toArray, List.set])
                  | (refine LexS.one' rfl rfl ?_
                     apply Exists.intro
                     refine ⟨fun w hR hF => ?_, ?_⟩
                     · have hP := hR
                       repeat (first | replace hP := Later.of_drew hP | replace hP := Later.of_drewN hP | replace hP := Later.of_alloc hP)
                       have hcs := hR.cells
                       have zr0 := hP.cell r0
                       have zq4 := hP.cell q4
                       have ze4 := hP.cell e4
                       clear hR hF hP
                       go_simp
                       first | done | rfl
                     simp only [Act.put, List.setIfInBounds_toArray, List.set])
                refine LexS.nil ?_
                intro w3 hR3 hF9
                clear hF9
                repeat (first | replace hR3 := Later.of_drew hR3 | replace hR3 := Later.of_drewN hR3 | replace hR3 := Later.of_alloc hR3)
                clear r0 q4 e4
                go_wp2_with fail
                refine Round.mk' HR1.out Hmu1.out rfl ?_ ?_
                · exact ⟨j + 1, by omega, by go_num, by rw [HA.out]; rfl, hid (HZ2.out HYF.out), Later.trans _ _ _ HL.out (Later.trans _ _ _ HR2.out hR3)⟩
                · rw [Hh13.out]; simp [intOf, slots]; omega
              ·
                have hb3 : ((j : Int) == n) = false := by simp; omega
                have hb4 : (j == n) = false := by simp [hjn]
                simp only [hb4, Bool.true_and, Bool.false_or, hb2] at HA
                clear hjn
                go_wp2_with fail
                refine wp_region_lex (by kernel_rfl) (by kernel_rfl) Later Later.refl Later.trans (fun _ => none) (fun _ _ _ _ _ h => by cases h) ?_
                simp only [numbered, Nat.reduceAdd]
                refine LexS.out ?_
                iterate 20
                  first
                  | (refine LexS.skip rfl ?_; simp only [Act.put, List.setIfInBounds_toArray, List.set])
                  | (refine LexS.one' rfl rfl ?_
                     apply Exists.intro
                     refine ⟨fun w hR hF => ?_, ?_⟩
                     · have hP := hR
                       repeat (first | replace hP := Later.of_drew hP | replace hP := Later.of_drewN hP | replace hP := Later.of_alloc hP)
                       have hcs := hR.cells
                       have zr0 := hP.cell r0
                       have zq4 := hP.cell q4
                       have ze4 := hP.cell e4
                       clear hR hF hP
                       go_simp
                       first | done | rfl
                     simp only [Act.put, List.setIfInBounds_toArray, List.set])
                refine LexS.nil ?_
                intro w2 hR2 hF9
                clear hF9
                repeat (first | replace hR2 := Later.of_drew hR2 | replace hR2 := Later.of_drewN hR2 | replace hR2 := Later.of_alloc hR2)
                replace r0 := hR2.cell r0
                replace q4 := hR2.cell q4
                replace e4 := hR2.cell e4
                have HR2 := hid hR2
                clear hR2
                go_wp2_with fail
                refine wp_region_lex (by kernel_rfl) (by kernel_rfl) Later Later.refl Later.trans (fun _ => none) (fun _ _ _ _ _ h => by cases h) ?_
                simp only [numbered, Nat.reduceAdd]
                refine LexS.out ?_
                iterate 19
                  first
                  | (refine LexS.skip rfl ?_; simp only [Act.put, List.setIfInBounds_toArray, List.set])
                  | (refine LexS.one' rfl rfl ?_
                     apply Exists.intro
                     refine ⟨fun w hR hF => ?_, ?_⟩
                     · have hP := hR
                       repeat (first | replace hP := Later.of_drew hP | replace hP := Later.of_drewN hP | replace hP := Later.of_alloc hP)
                       have hcs := hR.cells
                       have zr0 := hP.cell r0
                       have zq4 := hP.cell q4
                       have ze4 := hP.cell e4
                       clear hR hF hP
                       go_simp
                       first | done | rfl
                     simp only [Act.put, List.setIfInBounds_toArray, List.set])
                refine LexS.nil ?_
                intro w3 hR3 hF9
                clear hF9
                repeat (first | replace hR3 := Later.of_drew hR3 | replace hR3 := Later.of_drewN hR3 | replace hR3 := Later.of_alloc hR3)
                clear r0 q4 e4
                go_wp2_with fail
                refine Round.mk' HR1.out Hmu1.out rfl ?_ ?_
                · exact ⟨j + 1, by omega, by go_num, by rw [HA.out]; rfl, hid (HZ2.out HYF.out), Later.trans _ _ _ HL.out (Later.trans _ _ _ HR2.out hR3)⟩
                · rw [Hh13.out]; simp [intOf, slots]; omega
          · have hb1 : (y != e.mark) = true := by simp [hye]
            go_wp2_with fail
            refine wp_region_lex (by kernel_rfl) (by kernel_rfl) Later Later.refl Later.trans (fun _ => none) (fun _ _ _ _ _ h => by cases h) ?_
            simp only [numbered, Nat.reduceAdd]
            refine LexS.out ?_
            iterate 20
              first
              | (refine LexS.skip rfl ?_; simp only [Act.put, List.setIfInBounds_toArray, List.set])
              | (refine LexS.one' rfl rfl ?_
                 apply Exists.intro
                 refine ⟨fun w hR hF => ?_, ?_⟩
                 · have hP := hR
                   repeat (first | replace hP := Later.of_drew hP | replace hP := Later.of_drewN hP | replace hP := Later.of_alloc hP)
                   have hcs := hR.cells
                   have zr0 := hP.cell r0
                   have zq4 := hP.cell q4
                   have ze4 := hP.cell e4
                   clear hR hF hP
                   go_simp
                   first | done | rfl
                 simp only [Act.put, List.setIfInBounds_toArray, List.set])
            refine LexS.nil ?_
            intro w2 hR2 hF9
            clear hF9
            repeat (first | replace hR2 := Later.of_drew hR2 | replace hR2 := Later.of_drewN hR2 | replace hR2 := Later.of_alloc hR2)
            clear r0 q4 e4
            go_wp2_with fail
            go_ret2
            rw [HR.out, if_pos (HY2.out (by simp [hy0, hye]))]
            exact ⟨_, rfl, (HG1.out.later HL.out).later hR2, ElemsOwn.nil _ _, (Later.trans _ _ _ HLw.out (Later.trans _ _ _ HL.out hR2)).keeps _⟩
      · obtain rfl : j = g.ms.length := by omega
        have HN : Hid (g.ms.any (fun m => m != 0 && m != e.mark) = false) := hid (any_false fun i hi => hq.out i hi hi)
        obtain ⟨am, ham⟩ : ∃ am, am = allMarks g.ms n e.mark g.ms.length := ⟨_, rfl⟩
        have HR2 : Hid (rTake g n e = if am = true then ({ g with ms := List.replicate g.ms.length 0 }, 0, [⟨3, ⟨0, []⟩, 0, e.mark⟩])
          else ({ g with ms := g.ms.set n e.mark }, 0, [])) := hid (by rw [HR.out, HN.out, ham]; rfl)
        simp only [← ham]
        clear ham hq hj
        go_wp2_with fail
        refine wp_region_plan (by kernel_rfl) (by kernel_rfl) [] [7, 8] (by kernel_rfl) (fun _ _ d _ _ h => by cases d <;> exact h) (Later) (Later.refl) (Later.trans) (fun _ => none) (fun _ _ _ _ _ h => by cases h) ?_
        simp only [body, tail, numbered, Nat.reduceAdd, List.filter_cons, List.filter_nil, List.contains_cons, List.contains_nil, Nat.reduceBEq, Bool.or_false, Bool.or_true, Bool.false_or, Bool.true_or, Bool.not_true, Bool.not_false, Bool.and_true, Bool.and_false, Bool.true_and, Bool.false_and, if_true, if_false, reduceIte, Bool.false_eq_true, List.map_cons, List.map_nil]
        simp only [Pures]
        iterate 7
          first
          | (refine Lex.skip rfl ?_; simp only [Act.put, List.setIfInBounds_toArray, List.set])
          | (refine Lex.one' rfl rfl ?_
             apply Exists.intro
             refine ⟨fun w hR hF => ?_, ?_⟩
             · have hP := hR
               repeat (first | replace hP := Later.of_drew hP | replace hP := Later.of_drewN hP | replace hP := Later.of_alloc hP)
               have hcs := hR.cells
               have zr0 := hP.cell r0
               have ze4 := hP.cell e4
               clear hR hF hP
               go_simp
               first | done | rfl
             simp only [Act.put, List.setIfInBounds_toArray, List.set])
        intro w3 hR3 hF3
        clear hF3
        repeat (first | replace hR3 := Later.of_drew hR3 | replace hR3 := Later.of_drewN hR3 | replace hR3 := Later.of_alloc hR3)
        replace r0 := hR3.cell r0
        replace e4 := hR3.cell e4
        have hG3 := (HG1.out.later hL).later hR3
        have z0 := hG3.marks.free (n := n)
        have q0 := hG3.marks.at_ hlt
        have HG4 := hid (hG3.set_mark HD.out hlt e.mark)
        have HK4 : Hid (Keeps (fun b => b ≠ R ∧ b ≠ A ∧ b ≠ M) w (w3.setCell ⟨M, n, none⟩ (.int .i64 e.mark))) := hid (((Later.trans _ _ _ HLw.out (Later.trans _ _ _ hL hR3)).keeps _).setCell (.inl (fun h => h.2.2 rfl)) _)
        have HE4 : Hid ((w3.setCell ⟨M, n, none⟩ (.int .i64 e.mark)).cell? ⟨w.heap.size, 4, none⟩ = some (.int .i64 e.mark)) := hid (by
          rw [World.cell?_of_block (w := w3) (Below.heap_setCell _ ⟨M, n, none⟩ _ _ (by simp only; omega))]
          exact e4)
        have HML : Hid ((g.ms.set n e.mark).length = g.ms.length) := hid (List.length_set ..)
        obtain ⟨ms, hms⟩ : ∃ ms, ms = g.ms.set n e.mark := ⟨_, rfl⟩
        rw [← hms] at HML HG4 HR2
        clear hms hG3 hL hR3 HN HR
        change wpList _ _ _ _ _ _
        cases am with
        | false =>
          go_wp2_with fail
          go_ret2
          rw [HR2.out]
          exact ⟨_, rfl, HG4.out, ElemsOwn.nil _ _, HK4.out⟩
        | true =>
          go_wp2_with fail
          clear r0 e4 z0 q0
          generalize w3.setCell ⟨M, n, none⟩ (.int .i64 e.mark) = w4 at *
          obtain ⟨Rb, hRb⟩ : ∃ RR_ : (Nat → Value) → World → Prop, RR_ = (fun us wr => ∃ j : Nat, j ≤ ms.length ∧ us 14 = .int .i64 j ∧ RAt wr R A M cA cM { g with ms := zer ms j } ∧ Keeps (fun b => b ≠ R ∧ b ≠ A ∧ b ≠ M) w wr ∧  wr.cell? ⟨w.heap.size, 4, none⟩ = some (.int .i64 e.mark)) := ⟨_, rfl⟩
          obtain ⟨mub, hmub⟩ : ∃ mu : (Nat → Value) → World → Nat, mu = (fun us _ => ms.length - (intOf (us 14)).toNat) := ⟨_, rfl⟩
          have HRb := hid hRb; have Hmub := hid hmub; clear hRb hmub
          refine wp_loop_frame' [false, false, false, false, false, false, false, false, false, false, false, false, false, false, true, false, false, false, false, false, false, false, false, false, false, false, false, false, false, false, false, false, false, false, false, false, false, false, false, false, false, false, false, false, false, false, false, false, false, false, false, false, false, false, false, false, false, false, false, false, false, false, false, false, false, false, false, false, false, false, false, false, false, false, false, false, false, false, false, false, false, false, false, false, false, false, false, false, false, false, false, false, false, false, false, false, false, false, false, false, false, false, false, false, false, false, false, false, false, false, false, false, false, false, false, false, false, false, false, false, false, false, false, false, false, false, false, false, false, false, false, false, false, false, false, false, false, false, false, false, false, false, false, false, false, false, false, false, false, false, false, false, false, false, false, false, false, true, true, true, true, true, true, true, true, true, true, true, true, true, true, true] Rb _ mub HRb.out ?_ ?_
          · exact ⟨0, by omega, rfl, by rw [zer_zero]; exact HG4.out, HK4.out, HE4.out⟩
          ·
            clear HG4 HK4 HE4
            intro usb wr hrel
            obtain ⟨j, hj, h14, hG, hK, hE⟩ := hrel
            simp only [frameOf, Nat.reduceAdd, h14]
            have Hh14 := hid h14; clear h14
            have HG := hid hG; have HK := hid hK; have HE := hid hE
            have HZL := hid (zer_length ms j hj)
            have r0 := cell_obj (i := 1) hG.obj rfl
            simp only at r0
            rw [HZL.out] at r0
            have hj0 : (0 : Int) ≤ j := by omega
            have hjl : ms.length ≤ 64 := by rw [HML.out]; omega
            clear hG hK
            by_cases hjt : j < ms.length
            · have q0 := HG.out.marks.at_ (n := j) (by simp only; rw [HZL.out]; exact hjt)
              have z0 := HG.out.marks.free (n := j)
              simp only at q0
              generalize (zer ms j)[j]'(by rw [HZL.out]; exact hjt) = y at q0
              have HG5 := hid (HG.out.set_mark HD.out (n := j) (by simp only; rw [HZL.out]; exact hjt) 0)
              clear hE
              go_wp2_with fail
              refine Round.mk' HRb.out Hmub.out rfl ?_ ?_
              ·
                refine ⟨j + 1, by omega, by go_num, ?_, HK.out.setCell (.inl (fun h => h.2.2 rfl)) _, ?_⟩
                · have := HG5.out
                  simp only [zer_set ms j hjt] at this
                  exact this
                · rw [World.cell?_of_block (w := wr) (Below.heap_setCell _ ⟨M, j, none⟩ _ _ (by simp only; omega))]
                  exact HE.out
              · rw [Hh14.out]; simp [intOf, slots]; omega
            · obtain rfl : j = ms.length := by omega
              have hG9 := HG.out
              rw [zer_all, HML.out] at hG9
              have HG9 := hid hG9
              clear hG9 hj
              go_wp2_with fail
              go_ret2
              rw [HR2.out]
              refine ⟨_, rfl, HG9.out.later (Later.alloc _ _), ?_, HK.out.alloc _⟩
              exact elemsOwn_one (B := w.heap.size) (w := wr) (e := ⟨3, ⟨0, []⟩, 0, e.mark⟩) (v := .slice none 0 0) HK.out.size (vals_nil _ _)
end Go.Proofs.YthfgjmdmcoogpaaDoor
