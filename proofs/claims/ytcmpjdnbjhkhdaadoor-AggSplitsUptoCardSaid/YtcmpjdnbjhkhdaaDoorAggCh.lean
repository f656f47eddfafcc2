/-
  PROVED HERE: the contracts of what chooses by an order: its closure, its Add, its Value.
-/
import Derived.Test.YtcmpjdnbjhkhdaaDoorAggAcc
namespace Go.Proofs.YtcmpjdnbjhkhdaaDoor
set_option linter.unusedSimpArgs false
set_option linter.unusedVariables false
open Go.RowKit

theorem orL2_range {a b : Int} (ha : -1 ≤ a ∧ a ≤ 1) (hb : -1 ≤ b ∧ b ≤ 1) : -1 ≤ orL [a, b] ∧ orL [a, b] ≤ 1 := by rw [orL2]; split <;> assumption
theorem cmpI_range (a b : Int) : -1 ≤ cmpI a b ∧ cmpI a b ≤ 1 := by unfold cmpI; split; omega; split <;> omega
theorem compareV_range (x y : Val) : -1 ≤ compareV x y ∧ compareV x y ≤ 1 := by rw [compareV_eq]; unfold signI; split; omega; split <;> omega
theorem byValue_range (a b : TV) : -1 ≤ byValue a b ∧ byValue a b ≤ 1 := orL2_range (compareV_range _ _) (cmpI_range _ _)
theorem byTime_range (a b : TV) : -1 ≤ byTime a b ∧ byTime a b ≤ 1 := orL2_range (cmpI_range _ _) (compareV_range _ _)
/-- what chooses: its order, its sign, what it keeps. -/
structure ChAt (fo : Nat) (sg : Int) (w : World) (A Bo Bs : Nat) (x : TV) : Prop where
  obj : w.heap[A]? = some (.cells #[.func (.func 109) #[] #[.pointer (some ⟨Bo, 0, none⟩), .pointer (some ⟨Bs, 0, none⟩)], .int .i64 x.time, .int .i64 x.val.k, .int .i64 x.val.n, .string x.val.t] 205 (0, 0))
  ord : w.cell? ⟨Bo, 0, none⟩ = some (.func (.func fo) #[] #[])
  sign : w.cell? ⟨Bs, 0, none⟩ = some (.int .i64 sg)
  ne : Bo ≠ A ∧ Bs ≠ A
theorem ChAt.later {fo : Nat} {sg : Int} {w w' : World} {A Bo Bs : Nat} {x : TV} (h : ChAt fo sg w A Bo Bs x) (k : Later w w') : ChAt fo sg w' A Bo Bs x := ⟨k.obj h.obj, k.cell h.ord, k.cell h.sign, h.ne⟩
theorem ChAt.keep {fo : Nat} {sg : Int} {S : Nat → Prop} {w w' : World} {A Bo Bs : Nat} {x : TV} (h : ChAt fo sg w A Bo Bs x) (k : Keeps S w w') (hA : S A) (ho : S Bo) (hs : S Bs) : ChAt fo sg w' A Bo Bs x := ⟨k.obj hA h.obj, k.cell ho h.ord, k.cell hs h.sign, h.ne⟩
/-- a chooser keeps another value. -/
def put4 (w : World) (A : Nat) (x : TV) : World := (((w.setCell ⟨A, 1, none⟩ (.int .i64 x.time)).setCell ⟨A, 2, none⟩ (.int .i64 x.val.k)).setCell ⟨A, 3, none⟩ (.int .i64 x.val.n)).setCell ⟨A, 4, none⟩ (.string x.val.t)
theorem put4_keep (w : World) (A : Nat) (x : TV) : Keeps (fun b => b ≠ A) w (put4 w A x) :=
  ((((Keeps.refl (fun b => b ≠ A) w).setCell (p := ⟨A, 1, none⟩) (.inl fun h => h rfl) _).setCell (p := ⟨A, 2, none⟩) (.inl fun h => h rfl) _).setCell (p := ⟨A, 3, none⟩) (.inl fun h => h rfl) _).setCell (p := ⟨A, 4, none⟩) (.inl fun h => h rfl) _
theorem ChAt.put {fo : Nat} {sg : Int} {w : World} {A Bo Bs : Nat} {x : TV} (h : ChAt fo sg w A Bo Bs x) (y : TV) : ChAt fo sg (put4 w A y) A Bo Bs y :=
  ⟨obj_setCell (i := 4) (obj_setCell (i := 3) (obj_setCell (i := 2) (obj_setCell (i := 1) h.obj (.int .i64 y.time)) (.int .i64 y.val.k)) (.int .i64 y.val.n)) (.string y.val.t),
   (put4_keep w A y).cell h.ne.1 h.ord, (put4_keep w A y).cell h.ne.2 h.sign, h.ne⟩
set_option maxRecDepth 100000 in
theorem choose1_val (a b : TV) (Bo Bs : Nat) (sg : Int) (w : World) (hsg : sg = 1 ∨ sg = -1) (ho : w.cell? ⟨Bo, 0, none⟩ = some (.func (.func 82) #[] #[])) (hs : w.cell? ⟨Bs, 0, none⟩ = some (.int .i64 sg)) :
    Calls Tryd.prog 109 #[a.v, b.v, .pointer (some ⟨Bo, 0, none⟩), .pointer (some ⟨Bs, 0, none⟩)] w (BoolTo w (decide (byValue a b * sg < 0))) := by
  have HO := hid ho; have HS := hid hs
  have hm : IntKind.i64.wrap (byValue a b * sg) = byValue a b * sg := IntWalk.i64_in _ (by have := byValue_range a b; rcases hsg with rfl | rfl <;> omega)
  clear ho hs
  obtain ⟨M, hM⟩ : ∃ M, M = byValue a b := ⟨_, rfl⟩
  rw [← hM] at hm ⊢
  have HM := hid hM
  clear hM
  obtain ⟨a1, ⟨ak, an, at_⟩⟩ := a
  obtain ⟨b1, ⟨bk, bn, bt⟩⟩ := b
  go_enter Tryd.func109, Tryd.ntmps109
  go_upto_region 1 with (fail)
  obtain ⟨w2, hw2⟩ : ∃ w2, w2 = (w.alloc (.cells #[.int .i64 a1, .int .i64 ak, .int .i64 an, .string at_] 36 (0, 0))).alloc (.cells #[.int .i64 b1, .int .i64 bk, .int .i64 bn, .string bt] 36 (0, 0)) := ⟨_, rfl⟩
  obtain ⟨X, hX⟩ : ∃ X, X = w.heap.size := ⟨_, rfl⟩
  obtain ⟨Y, hY⟩ : ∃ Y, Y = w.heap.size + 1 := ⟨_, rfl⟩
  have HL2 : Hid (Later w w2) := hid (by rw [hw2]; exact Later.trans _ _ _ (Later.alloc _ _) (Later.alloc _ _))
  have HX2 : Hid (w2.heap[X]? = some (.cells #[.int .i64 a1, .int .i64 ak, .int .i64 an, .string at_] 36 (0, 0))) := hid (by rw [hw2, hX]; exact (Later.alloc _ _).obj (obj_new _ _))
  have HY2 : Hid (w2.heap[Y]? = some (.cells #[.int .i64 b1, .int .i64 bk, .int .i64 bn, .string bt] 36 (0, 0))) := hid (by rw [hw2, hY, ← World.size_alloc]; exact obj_new _ _)
  rw [← hw2, ← hY, ← hX]
  clear hw2 hX hY
  have x0 := cell_obj (i := 0) HX2.out (v := .int .i64 a1) rfl
  have x1 := cell_obj (i := 1) HX2.out (v := .int .i64 ak) rfl
  have x2 := cell_obj (i := 2) HX2.out (v := .int .i64 an) rfl
  have x3 := cell_obj (i := 3) HX2.out (v := .string at_) rfl
  have y0 := cell_obj (i := 0) HY2.out (v := .int .i64 b1) rfl
  have y1 := cell_obj (i := 1) HY2.out (v := .int .i64 bk) rfl
  have y2 := cell_obj (i := 2) HY2.out (v := .int .i64 bn) rfl
  have y3 := cell_obj (i := 3) HY2.out (v := .string bt) rfl
  have o0 := HL2.out.cell HO.out
  have s0 := HL2.out.cell HS.out
  refine wp_region_lex (by kernel_rfl) (by kernel_rfl) Later Later.refl Later.trans (kinds [(3, fun v _ => v = .int .i64 M)]) (kinds_still (by simp +contextual)) ?_
  simp only [numbered, Nat.reduceAdd]
  refine LexS.out ?_
  iterate 3
    first
    | (refine LexS.skip rfl ?_; simp only [Act.put, List.setIfInBounds_toArray, List.set])
    | (refine LexS.one' rfl rfl ?_
       apply Exists.intro
       refine ⟨fun w hR hF => ?_, ?_⟩
       · have hP := hR
         repeat (first | replace hP := Later.of_drew hP | replace hP := Later.of_drewN hP | replace hP := Later.of_alloc hP)
         have hcs := hR.cells
         have zx0 := hP.cell x0
         have zx1 := hP.cell x1
         have zx2 := hP.cell x2
         have zx3 := hP.cell x3
         have zy0 := hP.cell y0
         have zy1 := hP.cell y1
         have zy2 := hP.cell y2
         have zy3 := hP.cell y3
         have zo0 := hP.cell o0
         have zs0 := hP.cell s0
         clear hR hF hP
         go_simp
         first | done | rfl
       simp only [Act.put, List.setIfInBounds_toArray, List.set])
  refine LexS.anyEq rfl rfl (fun w hR hF => ?_) ?_
  · have hP := hR
    repeat (first | replace hP := Later.of_drew hP | replace hP := Later.of_drewN hP | replace hP := Later.of_alloc hP)
    have hcs := hR.cells
    clear hF hR
    unfold Runs
    go_simp
    unfold Yield
    refine (byValue_any ⟨a1, ⟨ak, an, at_⟩⟩ ⟨b1, ⟨bk, bn, bt⟩⟩ _).mono ?_
    rintro e w' ⟨rfl, hL⟩
    exact ⟨_, rfl, hL, (by rw [HM.out])⟩
  simp only [Act.put, List.setIfInBounds_toArray, List.set]
  iterate 4
    first
    | (refine LexS.skip rfl ?_; simp only [Act.put, List.setIfInBounds_toArray, List.set])
    | (refine LexS.one' rfl rfl ?_
       apply Exists.intro
       refine ⟨fun w hR hF => ?_, ?_⟩
       · have hP := hR
         repeat (first | replace hP := Later.of_drew hP | replace hP := Later.of_drewN hP | replace hP := Later.of_alloc hP)
         have hcs := hR.cells
         have zs0 := hP.cell s0
         clear hR hF hP
         go_simp
         first | done | rfl
       simp only [Act.put, List.setIfInBounds_toArray, List.set])
  refine LexS.nil ?_
  intro w3 hR3 hF9
  clear hF9
  repeat (first | replace hR3 := Later.of_drew hR3 | replace hR3 := Later.of_drewN hR3 | replace hR3 := Later.of_alloc hR3)
  have HL3 := hid (Later.trans _ _ _ HL2.out hR3)
  clear hR3
  go_wp2_with fail
  go_ret
  exact ⟨ret_bool (by first | rfl | simp), HL3.out⟩
set_option maxRecDepth 100000 in
set_option maxHeartbeats 1000000 in
theorem ch_add_val (sg : Int) (hsg : sg = 1 ∨ sg = -1) (A Bo Bs : Nat) (x t : TV) (w : World) (h : ChAt 82 sg w A Bo Bs x) :
    Calls Tryd.prog 243 #[.pointer (some ⟨A, 0, none⟩), t.v] w (AddTo (fun w' => ChAt 82 sg w' A Bo Bs (chooseP (fun a b => decide (byValue a b * sg < 0)) x t)) A w) := by
  have HC := hid h
  have hlt := (Array.getElem?_eq_some_iff.1 h.obj).1
  clear h
  obtain ⟨DD, hDD⟩ : ∃ DD : Bool, DD = decide (byValue t x * sg < 0) := ⟨_, rfl⟩
  have HDD := hid hDD
  clear hDD
  obtain ⟨x1, ⟨xk, xn, xt⟩⟩ := x
  obtain ⟨t1, ⟨tk, tn, tt⟩⟩ := t
  go_enter Tryd.func243, Tryd.ntmps243
  go_upto_region 1 with (fail)
  obtain ⟨w2, hw2⟩ : ∃ w2, w2 = w.alloc (.cells #[.int .i64 t1, .int .i64 tk, .int .i64 tn, .string tt] 36 (0, 0)) := ⟨_, rfl⟩
  obtain ⟨T, hT⟩ : ∃ T, T = w.heap.size := ⟨_, rfl⟩
  have HL2 : Hid (Later w w2) := hid (by rw [hw2]; exact Later.alloc _ _)
  have HT2 : Hid (w2.heap[T]? = some (.cells #[.int .i64 t1, .int .i64 tk, .int .i64 tn, .string tt] 36 (0, 0))) := hid (by rw [hw2, hT]; exact obj_new _ _)
  rw [← hw2, ← hT]
  clear hw2 hT hlt
  have HC2 := hid (HC.out.later HL2.out)
  have a0 := cell_obj (i := 0) HT2.out (v := .int .i64 t1) rfl
  have a1 := cell_obj (i := 1) HT2.out (v := .int .i64 tk) rfl
  have a2 := cell_obj (i := 2) HT2.out (v := .int .i64 tn) rfl
  have a3 := cell_obj (i := 3) HT2.out (v := .string tt) rfl
  have c0 := cell_obj (i := 0) HC2.out.obj (v := .func (.func 109) #[] #[.pointer (some ⟨Bo, 0, none⟩), .pointer (some ⟨Bs, 0, none⟩)]) rfl
  have c1 := cell_obj (i := 1) HC2.out.obj (v := .int .i64 x1) rfl
  have c2 := cell_obj (i := 2) HC2.out.obj (v := .int .i64 xk) rfl
  have c3 := cell_obj (i := 3) HC2.out.obj (v := .int .i64 xn) rfl
  have c4 := cell_obj (i := 4) HC2.out.obj (v := .string xt) rfl
  have o0 := HC2.out.ord
  have s0 := HC2.out.sign
  have HOS := hid (And.intro o0 s0)
  clear o0 s0
  by_cases htk : tk = 0
  · have HSAME : Hid ((⟨x1, ⟨xk, xn, xt⟩⟩ : TV) = chooseP (fun a b => decide (byValue a b * sg < 0)) ⟨x1, ⟨xk, xn, xt⟩⟩ ⟨t1, ⟨tk, tn, tt⟩⟩) := hid (by unfold chooseP; rw [if_neg (by rintro ⟨h, _⟩; exact h htk)])
    subst htk
    refine wp_region_lex (by kernel_rfl) (by kernel_rfl) Later Later.refl Later.trans (fun _ => none) (fun _ _ _ _ _ h => by cases h) ?_
    simp only [numbered, Nat.reduceAdd]
    refine LexS.out ?_
    iterate 25
      first
      | (refine LexS.skip rfl ?_; simp only [Act.put, List.setIfInBounds_toArray, List.set])
      | (refine LexS.one' rfl rfl ?_
         apply Exists.intro
         refine ⟨fun w hR hF => ?_, ?_⟩
         · have hP := hR
           repeat (first | replace hP := Later.of_drew hP | replace hP := Later.of_drewN hP | replace hP := Later.of_alloc hP)
           have hcs := hR.cells
           have za0 := hP.cell a0
           have za1 := hP.cell a1
           have za2 := hP.cell a2
           have za3 := hP.cell a3
           have zc0 := hP.cell c0
           have zc1 := hP.cell c1
           have zc2 := hP.cell c2
           have zc3 := hP.cell c3
           have zc4 := hP.cell c4
           clear hR hF hP
           go_simp
           first | done | rfl
         simp only [Act.put, List.setIfInBounds_toArray, List.set])
    refine LexS.nil ?_
    intro w3 hR3 hF9
    clear hF9
    repeat (first | replace hR3 := Later.of_drew hR3 | replace hR3 := Later.of_drewN hR3 | replace hR3 := Later.of_alloc hR3)
    have HL3 := hid (Later.trans _ _ _ HL2.out hR3)
    clear hR3 a0 a1 a2 a3 c0 c1 c2 c3 c4
    go_wp2_with fail
    refine bodyPost_end (v := .tuple #[]) (by simp [results, Tryd.results243, go_sem]) rfl ⟨rfl, ?_, HL3.out.keeps _⟩
    rw [← HSAME.out]
    exact HC.out.later HL3.out
  · have htk2 : (tk != 0) = true := by simpa using htk
    by_cases hxk : xk = 0
    · have HNEW : Hid ((⟨t1, ⟨tk, tn, tt⟩⟩ : TV) = chooseP (fun a b => decide (byValue a b * sg < 0)) ⟨x1, ⟨xk, xn, xt⟩⟩ ⟨t1, ⟨tk, tn, tt⟩⟩) := hid (by unfold chooseP; rw [if_pos ⟨htk, .inl hxk⟩])
      subst hxk
      clear htk
      refine wp_region_lex (by kernel_rfl) (by kernel_rfl) Later Later.refl Later.trans (fun _ => none) (fun _ _ _ _ _ h => by cases h) ?_
      simp only [numbered, Nat.reduceAdd]
      refine LexS.out ?_
      iterate 25
        first
        | (refine LexS.skip rfl ?_; simp only [Act.put, List.setIfInBounds_toArray, List.set])
        | (refine LexS.one' rfl rfl ?_
           apply Exists.intro
           refine ⟨fun w hR hF => ?_, ?_⟩
           · have hP := hR
             repeat (first | replace hP := Later.of_drew hP | replace hP := Later.of_drewN hP | replace hP := Later.of_alloc hP)
             have hcs := hR.cells
             have za0 := hP.cell a0
             have za1 := hP.cell a1
             have za2 := hP.cell a2
             have za3 := hP.cell a3
             have zc0 := hP.cell c0
             have zc1 := hP.cell c1
             have zc2 := hP.cell c2
             have zc3 := hP.cell c3
             have zc4 := hP.cell c4
             clear hR hF hP
             go_simp
             first | done | rfl
           simp only [Act.put, List.setIfInBounds_toArray, List.set])
      refine LexS.nil ?_
      intro w3 hR3 hF9
      clear hF9
      repeat (first | replace hR3 := Later.of_drew hR3 | replace hR3 := Later.of_drewN hR3 | replace hR3 := Later.of_alloc hR3)
      have HL3 := hid (Later.trans _ _ _ HL2.out hR3)
      have HC3 := hid (HC2.out.later hR3)
      replace a0 := hR3.cell a0
      replace a1 := hR3.cell a1
      replace a2 := hR3.cell a2
      replace a3 := hR3.cell a3
      clear hR3 c0 c1 c2 c3 c4
      have c1 := cell_obj (i := 1) HC3.out.obj rfl
      have c2 := cell_obj (i := 2) HC3.out.obj rfl
      have c3 := cell_obj (i := 3) HC3.out.obj rfl
      have c4 := cell_obj (i := 4) HC3.out.obj rfl
      have f1 := free_obj (i := 1) HC3.out.obj
      have f2 := free_obj (i := 2) HC3.out.obj
      have f3 := free_obj (i := 3) HC3.out.obj
      have f4 := free_obj (i := 4) HC3.out.obj
      go_wp2_with fail
      refine bodyPost_end (v := .tuple #[]) (by simp [results, Tryd.results243, go_sem]) rfl ⟨rfl, ?_, (HL3.out.keeps (fun b => b ≠ A)).trans (put4_keep _ _ ⟨t1, ⟨tk, tn, tt⟩⟩)⟩
      rw [← HNEW.out]
      exact HC3.out.put ⟨t1, ⟨tk, tn, tt⟩⟩
    · have hxk2 : (xk == 0) = false := beq_eq_false_iff_ne.2 hxk
      have HBOTH : Hid (∀ z : TV, z = (if DD = true then ⟨t1, ⟨tk, tn, tt⟩⟩ else ⟨x1, ⟨xk, xn, xt⟩⟩) → z = chooseP (fun a b => decide (byValue a b * sg < 0)) ⟨x1, ⟨xk, xn, xt⟩⟩ ⟨t1, ⟨tk, tn, tt⟩⟩) := hid (fun z e => by
        rw [e]
        unfold chooseP
        rw [HDD.out]
        by_cases hd : decide (byValue ⟨t1, ⟨tk, tn, tt⟩⟩ ⟨x1, ⟨xk, xn, xt⟩⟩ * sg < 0) = true
        · rw [if_pos hd, if_pos ⟨htk, .inr hd⟩]
        · rw [if_neg hd, if_neg (by rintro ⟨_, h | h⟩; exact hxk h; exact hd h)])
      clear htk hxk
      refine wp_region_lex (by kernel_rfl) (by kernel_rfl) Later Later.refl Later.trans (kinds [(22, fun v _ => v = .bool DD)]) (kinds_still (by simp +contextual)) ?_
      simp only [numbered, Nat.reduceAdd]
      refine LexS.out ?_
      iterate 22
        first
        | (refine LexS.skip rfl ?_; simp only [Act.put, List.setIfInBounds_toArray, List.set])
        | (refine LexS.one' rfl rfl ?_
           apply Exists.intro
           refine ⟨fun w hR hF => ?_, ?_⟩
           · have hP := hR
             repeat (first | replace hP := Later.of_drew hP | replace hP := Later.of_drewN hP | replace hP := Later.of_alloc hP)
             have hcs := hR.cells
             have za0 := hP.cell a0
             have za1 := hP.cell a1
             have za2 := hP.cell a2
             have za3 := hP.cell a3
             have zc0 := hP.cell c0
             have zc1 := hP.cell c1
             have zc2 := hP.cell c2
             have zc3 := hP.cell c3
             have zc4 := hP.cell c4
             clear hR hF hP
             go_simp
             first | done | rfl
           simp only [Act.put, List.setIfInBounds_toArray, List.set])
      refine LexS.anyEq rfl rfl (fun w hR hF => ?_) ?_
      · have hP := hR
        repeat (first | replace hP := Later.of_drew hP | replace hP := Later.of_drewN hP | replace hP := Later.of_alloc hP)
        have hcs := hR.cells
        clear hF hR
        unfold Runs
        go_simp
        unfold Yield
        refine (choose1_val ⟨t1, ⟨tk, tn, tt⟩⟩ ⟨x1, ⟨xk, xn, xt⟩⟩ Bo Bs sg _ hsg (hP.cell HOS.out.1) (hP.cell HOS.out.2)).mono ?_
        rintro e w' ⟨rfl, hL⟩
        exact ⟨_, rfl, hL, (by rw [HDD.out])⟩
      simp only [Act.put, List.setIfInBounds_toArray, List.set]
      iterate 2
        first
        | (refine LexS.skip rfl ?_; simp only [Act.put, List.setIfInBounds_toArray, List.set])
        | (refine LexS.one' rfl rfl ?_
           apply Exists.intro
           refine ⟨fun w hR hF => ?_, ?_⟩
           · have hP := hR
             repeat (first | replace hP := Later.of_drew hP | replace hP := Later.of_drewN hP | replace hP := Later.of_alloc hP)
             have hcs := hR.cells
             clear hR hF hP
             go_simp
             first | done | rfl
           simp only [Act.put, List.setIfInBounds_toArray, List.set])
      refine LexS.nil ?_
      intro w3 hR3 hF9
      clear hF9
      repeat (first | replace hR3 := Later.of_drew hR3 | replace hR3 := Later.of_drewN hR3 | replace hR3 := Later.of_alloc hR3)
      have HL3 := hid (Later.trans _ _ _ HL2.out hR3)
      have HC3 := hid (HC2.out.later hR3)
      replace a0 := hR3.cell a0
      replace a1 := hR3.cell a1
      replace a2 := hR3.cell a2
      replace a3 := hR3.cell a3
      clear hR3 c0 c1 c2 c3 c4
      have c1 := cell_obj (i := 1) HC3.out.obj rfl
      have c2 := cell_obj (i := 2) HC3.out.obj rfl
      have c3 := cell_obj (i := 3) HC3.out.obj rfl
      have c4 := cell_obj (i := 4) HC3.out.obj rfl
      have f1 := free_obj (i := 1) HC3.out.obj
      have f2 := free_obj (i := 2) HC3.out.obj
      have f3 := free_obj (i := 3) HC3.out.obj
      have f4 := free_obj (i := 4) HC3.out.obj
      clear HDD
      cases DD with
      | true =>
        go_wp2_with fail
        refine bodyPost_end (v := .tuple #[]) (by simp [results, Tryd.results243, go_sem]) rfl ⟨rfl, ?_, (HL3.out.keeps (fun b => b ≠ A)).trans (put4_keep _ _ ⟨t1, ⟨tk, tn, tt⟩⟩)⟩
        rw [← HBOTH.out ⟨t1, ⟨tk, tn, tt⟩⟩ rfl]
        exact HC3.out.put ⟨t1, ⟨tk, tn, tt⟩⟩
      | false =>
        go_wp2_with fail
        refine bodyPost_end (v := .tuple #[]) (by simp [results, Tryd.results243, go_sem]) rfl ⟨rfl, ?_, HL3.out.keeps _⟩
        rw [← HBOTH.out ⟨x1, ⟨xk, xn, xt⟩⟩ rfl]
        exact HC3.out
set_option maxRecDepth 100000 in
theorem choose1_time (a b : TV) (Bo Bs : Nat) (sg : Int) (w : World) (hsg : sg = 1 ∨ sg = -1) (ho : w.cell? ⟨Bo, 0, none⟩ = some (.func (.func 83) #[] #[])) (hs : w.cell? ⟨Bs, 0, none⟩ = some (.int .i64 sg)) :
    Calls Tryd.prog 109 #[a.v, b.v, .pointer (some ⟨Bo, 0, none⟩), .pointer (some ⟨Bs, 0, none⟩)] w (BoolTo w (decide (byTime a b * sg < 0))) := by
  have HO := hid ho; have HS := hid hs
  have hm : IntKind.i64.wrap (byTime a b * sg) = byTime a b * sg := IntWalk.i64_in _ (by have := byTime_range a b; rcases hsg with rfl | rfl <;> omega)
  clear ho hs
  obtain ⟨M, hM⟩ : ∃ M, M = byTime a b := ⟨_, rfl⟩
  rw [← hM] at hm ⊢
  have HM := hid hM
  clear hM
  obtain ⟨a1, ⟨ak, an, at_⟩⟩ := a
  obtain ⟨b1, ⟨bk, bn, bt⟩⟩ := b
  go_enter Tryd.func109, Tryd.ntmps109
  go_upto_region 1 with (fail)
  obtain ⟨w2, hw2⟩ : ∃ w2, w2 = (w.alloc (.cells #[.int .i64 a1, .int .i64 ak, .int .i64 an, .string at_] 36 (0, 0))).alloc (.cells #[.int .i64 b1, .int .i64 bk, .int .i64 bn, .string bt] 36 (0, 0)) := ⟨_, rfl⟩
  obtain ⟨X, hX⟩ : ∃ X, X = w.heap.size := ⟨_, rfl⟩
  obtain ⟨Y, hY⟩ : ∃ Y, Y = w.heap.size + 1 := ⟨_, rfl⟩
  have HL2 : Hid (Later w w2) := hid (by rw [hw2]; exact Later.trans _ _ _ (Later.alloc _ _) (Later.alloc _ _))
  have HX2 : Hid (w2.heap[X]? = some (.cells #[.int .i64 a1, .int .i64 ak, .int .i64 an, .string at_] 36 (0, 0))) := hid (by rw [hw2, hX]; exact (Later.alloc _ _).obj (obj_new _ _))
  have HY2 : Hid (w2.heap[Y]? = some (.cells #[.int .i64 b1, .int .i64 bk, .int .i64 bn, .string bt] 36 (0, 0))) := hid (by rw [hw2, hY, ← World.size_alloc]; exact obj_new _ _)
  rw [← hw2, ← hY, ← hX]
  clear hw2 hX hY
  have x0 := cell_obj (i := 0) HX2.out (v := .int .i64 a1) rfl
  have x1 := cell_obj (i := 1) HX2.out (v := .int .i64 ak) rfl
  have x2 := cell_obj (i := 2) HX2.out (v := .int .i64 an) rfl
  have x3 := cell_obj (i := 3) HX2.out (v := .string at_) rfl
  have y0 := cell_obj (i := 0) HY2.out (v := .int .i64 b1) rfl
  have y1 := cell_obj (i := 1) HY2.out (v := .int .i64 bk) rfl
  have y2 := cell_obj (i := 2) HY2.out (v := .int .i64 bn) rfl
  have y3 := cell_obj (i := 3) HY2.out (v := .string bt) rfl
  have o0 := HL2.out.cell HO.out
  have s0 := HL2.out.cell HS.out
  refine wp_region_lex (by kernel_rfl) (by kernel_rfl) Later Later.refl Later.trans (kinds [(3, fun v _ => v = .int .i64 M)]) (kinds_still (by simp +contextual)) ?_
  simp only [numbered, Nat.reduceAdd]
  refine LexS.out ?_
  iterate 3
    first
    | (refine LexS.skip rfl ?_; simp only [Act.put, List.setIfInBounds_toArray, List.set])
    | (refine LexS.one' rfl rfl ?_
       apply Exists.intro
       refine ⟨fun w hR hF => ?_, ?_⟩
       · have hP := hR
         repeat (first | replace hP := Later.of_drew hP | replace hP := Later.of_drewN hP | replace hP := Later.of_alloc hP)
         have hcs := hR.cells
         have zx0 := hP.cell x0
         have zx1 := hP.cell x1
         have zx2 := hP.cell x2
         have zx3 := hP.cell x3
         have zy0 := hP.cell y0
         have zy1 := hP.cell y1
         have zy2 := hP.cell y2
         have zy3 := hP.cell y3
         have zo0 := hP.cell o0
         have zs0 := hP.cell s0
         clear hR hF hP
         go_simp
         first | done | rfl
       simp only [Act.put, List.setIfInBounds_toArray, List.set])
  refine LexS.anyEq rfl rfl (fun w hR hF => ?_) ?_
  · have hP := hR
    repeat (first | replace hP := Later.of_drew hP | replace hP := Later.of_drewN hP | replace hP := Later.of_alloc hP)
    have hcs := hR.cells
    clear hF hR
    unfold Runs
    go_simp
    unfold Yield
    refine (byTime_any ⟨a1, ⟨ak, an, at_⟩⟩ ⟨b1, ⟨bk, bn, bt⟩⟩ _).mono ?_
    rintro e w' ⟨rfl, hL⟩
    exact ⟨_, rfl, hL, (by rw [HM.out])⟩
  simp only [Act.put, List.setIfInBounds_toArray, List.set]
  iterate 4
    first
    | (refine LexS.skip rfl ?_; simp only [Act.put, List.setIfInBounds_toArray, List.set])
    | (refine LexS.one' rfl rfl ?_
       apply Exists.intro
       refine ⟨fun w hR hF => ?_, ?_⟩
       · have hP := hR
         repeat (first | replace hP := Later.of_drew hP | replace hP := Later.of_drewN hP | replace hP := Later.of_alloc hP)
         have hcs := hR.cells
         have zs0 := hP.cell s0
         clear hR hF hP
         go_simp
         first | done | rfl
       simp only [Act.put, List.setIfInBounds_toArray, List.set])
  refine LexS.nil ?_
  intro w3 hR3 hF9
  clear hF9
  repeat (first | replace hR3 := Later.of_drew hR3 | replace hR3 := Later.of_drewN hR3 | replace hR3 := Later.of_alloc hR3)
  have HL3 := hid (Later.trans _ _ _ HL2.out hR3)
  clear hR3
  go_wp2_with fail
  go_ret
  exact ⟨ret_bool (by first | rfl | simp), HL3.out⟩
set_option maxRecDepth 100000 in
set_option maxHeartbeats 1000000 in
theorem ch_add_time (sg : Int) (hsg : sg = 1 ∨ sg = -1) (A Bo Bs : Nat) (x t : TV) (w : World) (h : ChAt 83 sg w A Bo Bs x) :
    Calls Tryd.prog 243 #[.pointer (some ⟨A, 0, none⟩), t.v] w (AddTo (fun w' => ChAt 83 sg w' A Bo Bs (chooseP (fun a b => decide (byTime a b * sg < 0)) x t)) A w) := by
  have HC := hid h
  have hlt := (Array.getElem?_eq_some_iff.1 h.obj).1
  clear h
  obtain ⟨DD, hDD⟩ : ∃ DD : Bool, DD = decide (byTime t x * sg < 0) := ⟨_, rfl⟩
  have HDD := hid hDD
  clear hDD
  obtain ⟨x1, ⟨xk, xn, xt⟩⟩ := x
  obtain ⟨t1, ⟨tk, tn, tt⟩⟩ := t
  go_enter Tryd.func243, Tryd.ntmps243
  go_upto_region 1 with (fail)
  obtain ⟨w2, hw2⟩ : ∃ w2, w2 = w.alloc (.cells #[.int .i64 t1, .int .i64 tk, .int .i64 tn, .string tt] 36 (0, 0)) := ⟨_, rfl⟩
  obtain ⟨T, hT⟩ : ∃ T, T = w.heap.size := ⟨_, rfl⟩
  have HL2 : Hid (Later w w2) := hid (by rw [hw2]; exact Later.alloc _ _)
  have HT2 : Hid (w2.heap[T]? = some (.cells #[.int .i64 t1, .int .i64 tk, .int .i64 tn, .string tt] 36 (0, 0))) := hid (by rw [hw2, hT]; exact obj_new _ _)
  rw [← hw2, ← hT]
  clear hw2 hT hlt
  have HC2 := hid (HC.out.later HL2.out)
  have a0 := cell_obj (i := 0) HT2.out (v := .int .i64 t1) rfl
  have a1 := cell_obj (i := 1) HT2.out (v := .int .i64 tk) rfl
  have a2 := cell_obj (i := 2) HT2.out (v := .int .i64 tn) rfl
  have a3 := cell_obj (i := 3) HT2.out (v := .string tt) rfl
  have c0 := cell_obj (i := 0) HC2.out.obj (v := .func (.func 109) #[] #[.pointer (some ⟨Bo, 0, none⟩), .pointer (some ⟨Bs, 0, none⟩)]) rfl
  have c1 := cell_obj (i := 1) HC2.out.obj (v := .int .i64 x1) rfl
  have c2 := cell_obj (i := 2) HC2.out.obj (v := .int .i64 xk) rfl
  have c3 := cell_obj (i := 3) HC2.out.obj (v := .int .i64 xn) rfl
  have c4 := cell_obj (i := 4) HC2.out.obj (v := .string xt) rfl
  have o0 := HC2.out.ord
  have s0 := HC2.out.sign
  have HOS := hid (And.intro o0 s0)
  clear o0 s0
  by_cases htk : tk = 0
  · have HSAME : Hid ((⟨x1, ⟨xk, xn, xt⟩⟩ : TV) = chooseP (fun a b => decide (byTime a b * sg < 0)) ⟨x1, ⟨xk, xn, xt⟩⟩ ⟨t1, ⟨tk, tn, tt⟩⟩) := hid (by unfold chooseP; rw [if_neg (by rintro ⟨h, _⟩; exact h htk)])
    subst htk
    refine wp_region_lex (by kernel_rfl) (by kernel_rfl) Later Later.refl Later.trans (fun _ => none) (fun _ _ _ _ _ h => by cases h) ?_
    simp only [numbered, Nat.reduceAdd]
    refine LexS.out ?_
    iterate 25
      first
      | (refine LexS.skip rfl ?_; simp only [Act.put, List.setIfInBounds_toArray, List.set])
      | (refine LexS.one' rfl rfl ?_
         apply Exists.intro
         refine ⟨fun w hR hF => ?_, ?_⟩
         · have hP := hR
           repeat (first | replace hP := Later.of_drew hP | replace hP := Later.of_drewN hP | replace hP := Later.of_alloc hP)
           have hcs := hR.cells
           have za0 := hP.cell a0
           have za1 := hP.cell a1
           have za2 := hP.cell a2
           have za3 := hP.cell a3
           have zc0 := hP.cell c0
           have zc1 := hP.cell c1
           have zc2 := hP.cell c2
           have zc3 := hP.cell c3
           have zc4 := hP.cell c4
           clear hR hF hP
           go_simp
           first | done | rfl
         simp only [Act.put, List.setIfInBounds_toArray, List.set])
    refine LexS.nil ?_
    intro w3 hR3 hF9
    clear hF9
    repeat (first | replace hR3 := Later.of_drew hR3 | replace hR3 := Later.of_drewN hR3 | replace hR3 := Later.of_alloc hR3)
    have HL3 := hid (Later.trans _ _ _ HL2.out hR3)
    clear hR3 a0 a1 a2 a3 c0 c1 c2 c3 c4
    go_wp2_with fail
    refine bodyPost_end (v := .tuple #[]) (by simp [results, Tryd.results243, go_sem]) rfl ⟨rfl, ?_, HL3.out.keeps _⟩
    rw [← HSAME.out]
    exact HC.out.later HL3.out
  · have htk2 : (tk != 0) = true := by simpa using htk
    by_cases hxk : xk = 0
    · have HNEW : Hid ((⟨t1, ⟨tk, tn, tt⟩⟩ : TV) = chooseP (fun a b => decide (byTime a b * sg < 0)) ⟨x1, ⟨xk, xn, xt⟩⟩ ⟨t1, ⟨tk, tn, tt⟩⟩) := hid (by unfold chooseP; rw [if_pos ⟨htk, .inl hxk⟩])
      subst hxk
      clear htk
      refine wp_region_lex (by kernel_rfl) (by kernel_rfl) Later Later.refl Later.trans (fun _ => none) (fun _ _ _ _ _ h => by cases h) ?_
      simp only [numbered, Nat.reduceAdd]
      refine LexS.out ?_
      iterate 25
        first
        | (refine LexS.skip rfl ?_; simp only [Act.put, List.setIfInBounds_toArray, List.set])
        | (refine LexS.one' rfl rfl ?_
           apply Exists.intro
           refine ⟨fun w hR hF => ?_, ?_⟩
           · have hP := hR
             repeat (first | replace hP := Later.of_drew hP | replace hP := Later.of_drewN hP | replace hP := Later.of_alloc hP)
             have hcs := hR.cells
             have za0 := hP.cell a0
             have za1 := hP.cell a1
             have za2 := hP.cell a2
             have za3 := hP.cell a3
             have zc0 := hP.cell c0
             have zc1 := hP.cell c1
             have zc2 := hP.cell c2
             have zc3 := hP.cell c3
             have zc4 := hP.cell c4
             clear hR hF hP
             go_simp
             first | done | rfl
           simp only [Act.put, List.setIfInBounds_toArray, List.set])
      refine LexS.nil ?_
      intro w3 hR3 hF9
      clear hF9
      repeat (first | replace hR3 := Later.of_drew hR3 | replace hR3 := Later.of_drewN hR3 | replace hR3 := Later.of_alloc hR3)
      have HL3 := hid (Later.trans _ _ _ HL2.out hR3)
      have HC3 := hid (HC2.out.later hR3)
      replace a0 := hR3.cell a0
      replace a1 := hR3.cell a1
      replace a2 := hR3.cell a2
      replace a3 := hR3.cell a3
      clear hR3 c0 c1 c2 c3 c4
      have c1 := cell_obj (i := 1) HC3.out.obj rfl
      have c2 := cell_obj (i := 2) HC3.out.obj rfl
      have c3 := cell_obj (i := 3) HC3.out.obj rfl
      have c4 := cell_obj (i := 4) HC3.out.obj rfl
      have f1 := free_obj (i := 1) HC3.out.obj
      have f2 := free_obj (i := 2) HC3.out.obj
      have f3 := free_obj (i := 3) HC3.out.obj
      have f4 := free_obj (i := 4) HC3.out.obj
      go_wp2_with fail
      refine bodyPost_end (v := .tuple #[]) (by simp [results, Tryd.results243, go_sem]) rfl ⟨rfl, ?_, (HL3.out.keeps (fun b => b ≠ A)).trans (put4_keep _ _ ⟨t1, ⟨tk, tn, tt⟩⟩)⟩
      rw [← HNEW.out]
      exact HC3.out.put ⟨t1, ⟨tk, tn, tt⟩⟩
    · have hxk2 : (xk == 0) = false := beq_eq_false_iff_ne.2 hxk
      have HBOTH : Hid (∀ z : TV, z = (if DD = true then ⟨t1, ⟨tk, tn, tt⟩⟩ else ⟨x1, ⟨xk, xn, xt⟩⟩) → z = chooseP (fun a b => decide (byTime a b * sg < 0)) ⟨x1, ⟨xk, xn, xt⟩⟩ ⟨t1, ⟨tk, tn, tt⟩⟩) := hid (fun z e => by
        rw [e]
        unfold chooseP
        rw [HDD.out]
        by_cases hd : decide (byTime ⟨t1, ⟨tk, tn, tt⟩⟩ ⟨x1, ⟨xk, xn, xt⟩⟩ * sg < 0) = true
        · rw [if_pos hd, if_pos ⟨htk, .inr hd⟩]
        · rw [if_neg hd, if_neg (by rintro ⟨_, h | h⟩; exact hxk h; exact hd h)])
      clear htk hxk
      refine wp_region_lex (by kernel_rfl) (by kernel_rfl) Later Later.refl Later.trans (kinds [(22, fun v _ => v = .bool DD)]) (kinds_still (by simp +contextual)) ?_
      simp only [numbered, Nat.reduceAdd]
      refine LexS.out ?_
      iterate 22
        first
        | (refine LexS.skip rfl ?_; simp only [Act.put, List.setIfInBounds_toArray, List.set])
        | (refine LexS.one' rfl rfl ?_
           apply Exists.intro
           refine ⟨fun w hR hF => ?_, ?_⟩
           · have hP := hR
             repeat (first | replace hP := Later.of_drew hP | replace hP := Later.of_drewN hP | replace hP := Later.of_alloc hP)
             have hcs := hR.cells
             have za0 := hP.cell a0
             have za1 := hP.cell a1
             have za2 := hP.cell a2
             have za3 := hP.cell a3
             have zc0 := hP.cell c0
             have zc1 := hP.cell c1
             have zc2 := hP.cell c2
             have zc3 := hP.cell c3
             have zc4 := hP.cell c4
             clear hR hF hP
             go_simp
             first | done | rfl
           simp only [Act.put, List.setIfInBounds_toArray, List.set])
      refine LexS.anyEq rfl rfl (fun w hR hF => ?_) ?_
      · have hP := hR
        repeat (first | replace hP := Later.of_drew hP | replace hP := Later.of_drewN hP | replace hP := Later.of_alloc hP)
        have hcs := hR.cells
        clear hF hR
        unfold Runs
        go_simp
        unfold Yield
        refine (choose1_time ⟨t1, ⟨tk, tn, tt⟩⟩ ⟨x1, ⟨xk, xn, xt⟩⟩ Bo Bs sg _ hsg (hP.cell HOS.out.1) (hP.cell HOS.out.2)).mono ?_
        rintro e w' ⟨rfl, hL⟩
        exact ⟨_, rfl, hL, (by rw [HDD.out])⟩
      simp only [Act.put, List.setIfInBounds_toArray, List.set]
      iterate 2
        first
        | (refine LexS.skip rfl ?_; simp only [Act.put, List.setIfInBounds_toArray, List.set])
        | (refine LexS.one' rfl rfl ?_
           apply Exists.intro
           refine ⟨fun w hR hF => ?_, ?_⟩
           · have hP := hR
             repeat (first | replace hP := Later.of_drew hP | replace hP := Later.of_drewN hP | replace hP := Later.of_alloc hP)
             have hcs := hR.cells
             clear hR hF hP
             go_simp
             first | done | rfl
           simp only [Act.put, List.setIfInBounds_toArray, List.set])
      refine LexS.nil ?_
      intro w3 hR3 hF9
      clear hF9
      repeat (first | replace hR3 := Later.of_drew hR3 | replace hR3 := Later.of_drewN hR3 | replace hR3 := Later.of_alloc hR3)
      have HL3 := hid (Later.trans _ _ _ HL2.out hR3)
      have HC3 := hid (HC2.out.later hR3)
      replace a0 := hR3.cell a0
      replace a1 := hR3.cell a1
      replace a2 := hR3.cell a2
      replace a3 := hR3.cell a3
      clear hR3 c0 c1 c2 c3 c4
      have c1 := cell_obj (i := 1) HC3.out.obj rfl
      have c2 := cell_obj (i := 2) HC3.out.obj rfl
      have c3 := cell_obj (i := 3) HC3.out.obj rfl
      have c4 := cell_obj (i := 4) HC3.out.obj rfl
      have f1 := free_obj (i := 1) HC3.out.obj
      have f2 := free_obj (i := 2) HC3.out.obj
      have f3 := free_obj (i := 3) HC3.out.obj
      have f4 := free_obj (i := 4) HC3.out.obj
      clear HDD
      cases DD with
      | true =>
        go_wp2_with fail
        refine bodyPost_end (v := .tuple #[]) (by simp [results, Tryd.results243, go_sem]) rfl ⟨rfl, ?_, (HL3.out.keeps (fun b => b ≠ A)).trans (put4_keep _ _ ⟨t1, ⟨tk, tn, tt⟩⟩)⟩
        rw [← HBOTH.out ⟨t1, ⟨tk, tn, tt⟩⟩ rfl]
        exact HC3.out.put ⟨t1, ⟨tk, tn, tt⟩⟩
      | false =>
        go_wp2_with fail
        refine bodyPost_end (v := .tuple #[]) (by simp [results, Tryd.results243, go_sem]) rfl ⟨rfl, ?_, HL3.out.keeps _⟩
        rw [← HBOTH.out ⟨x1, ⟨xk, xn, xt⟩⟩ rfl]
        exact HC3.out
set_option maxRecDepth 100000 in
theorem ch_val (fo : Nat) (sg : Int) (A Bo Bs : Nat) (x : TV) (w : World) (h : ChAt fo sg w A Bo Bs x) : Calls Tryd.prog 246 #[.pointer (some ⟨A, 0, none⟩)] w (ValTo x.val w) := by
  have hlt := (Array.getElem?_eq_some_iff.1 h.obj).1
  obtain ⟨x1, ⟨xk, xn, xt⟩⟩ := x
  have c2 := cell_obj (i := 2) h.obj (v := .int .i64 xk) rfl
  have c3 := cell_obj (i := 3) h.obj (v := .int .i64 xn) rfl
  have c4 := cell_obj (i := 4) h.obj (v := .string xt) rfl
  clear h
  go_enter Tryd.func246, Tryd.ntmps246
  go_wp2_with fail
  exact bodyPost_ret (v := .agg #[.int .i64 xk, .int .i64 xn, .string xt]) (by simp [results, Tryd.results246, go_sem]) rfl ⟨rfl, Later.alloc _ _⟩
end Go.Proofs.YtcmpjdnbjhkhdaaDoor
