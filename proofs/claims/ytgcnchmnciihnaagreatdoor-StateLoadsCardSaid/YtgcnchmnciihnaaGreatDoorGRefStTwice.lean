/-
  PROVED HERE: the contract of the document's Twice.
-/
import Derived.Test.YtgcnchmnciihnaaGreatDoorGRefStPiece
namespace Go.Proofs.YtgcnchmnciihnaaGreatDoor
set_option linter.unusedSimpArgs false
set_option linter.unusedVariables false
open Go Go.RowKit

def grpK (g : Int) (ks : List KX) : List KX := ks.filter fun x => inGroup g x.cell
theorem grpK_take {g : Int} {ks : List KX} {i : Nat} (h : i < ks.length) : grpK g (ks.take (i + 1)) = grpK g (ks.take i) ++ (if inGroup g ks[i].cell = true then [ks[i]] else []) := by
  unfold grpK
  rw [List.take_succ_eq_append_getElem h, List.filter_append]
  congr 1
  by_cases hg : inGroup g ks[i].cell = true
  · rw [if_pos hg]; simp [hg]
  · rw [if_neg hg]; simp [hg]
theorem grpK_map (g : Int) (ks : List KX) : cellsOf (grpK g ks) = grpE g ks := by
  unfold grpK grpE cellsOf
  rw [List.filter_map]; rfl
theorem grpE_self (g : Int) (ks : List KX) (h : ∀ x ∈ ks, inGroup g x.cell = true) : grpE g ks = cellsOf ks := by
  unfold grpE cellsOf
  refine List.filter_eq_self.2 fun c hc => ?_
  obtain ⟨x, hx, rfl⟩ := List.mem_map.1 hc
  exact h x hx
/-- which cell of the group was last. -/
def LastIx (g : Int) (ks : List KX) (i : Nat) (z : Int) : Prop := (z = -1 ∧ grpK g (ks.take i) = []) ∨ ∃ (p : Nat) (h : p < ks.length), z = p ∧ (grpK g (ks.take i)).getLast? = some ks[p]
def TwiceTo (w : World) (l : List CellP) (e : Ending) (w' : World) : Prop := ∃ v, e = .returned v ∧ w'.ownsRow w.heap.size 5 1 v (sealed (encCells l)).length (byteCells (sealed (encCells l))) ∧ Later w w'
def twiceL (g : Int) (L : List CellP) : List CellP := L.filter (inGroup g) ++ (L.filter (inGroup g)).getLast?.toList
theorem enc_ok {B D : Nat} {w : World} {lo hi : Int} {v : Value} {ks l : List KX} (h : RefAt B w D lo hi v ks) (hl : ∀ x ∈ l, x ∈ ks) (hw : weightL (cellsOf l) ≤ 200000000) (hc : l.length ≤ 4194304) : EncOk l := by
  have hm : ∀ x ∈ l, x.cell ∈ cellsOf ks := fun x hx => List.mem_map.2 ⟨x, hl x hx, rfl⟩
  refine ⟨fun x hx y hy => ⟨h.st.valid _ (hm x hx) y hy, h.ok x (hl x hx) y hy⟩, fun x hx => (validR_key (ownsK_valid (h.st.owns _ (hm x hx))).1).1, fun x hx => ?_, hw, hc⟩
  have := winOk_range (h.st.win _ (hm x hx))
  exact ⟨wf64 (by omega) (by omega), wf64 (by omega) (by omega)⟩
theorem weightL_app (a b : List CellP) : weightL (a ++ b) = weightL a + weightL b := by unfold weightL; rw [List.map_append, List.sum_append]
theorem twiceL_nil {g : Int} {ks : List KX} (h : grpK g ks = []) : twiceL g (cellsOf ks) = [] := by
  have := grpK_map g ks
  rw [h] at this
  unfold twiceL
  have e : (cellsOf ks).filter (inGroup g) = [] := this.symm
  rw [e]; rfl
theorem twiceL_last {g : Int} {ks : List KX} {X : KX} (h : (grpK g ks).getLast? = some X) : grpE g (grpK g ks ++ [X]) = twiceL g (cellsOf ks) := by
  have hX : X ∈ grpK g ks := List.mem_of_getLast? h
  rw [grpE_self]
  · unfold twiceL
    have e : (cellsOf ks).filter (inGroup g) = cellsOf (grpK g ks) := (grpK_map g ks).symm
    rw [e]
    unfold cellsOf
    rw [List.map_append, List.getLast?_map, h]
    rfl
  · intro x hx
    rcases List.mem_append.1 hx with h1 | h1
    · exact (List.mem_filter.1 h1).2
    · obtain rfl := List.mem_singleton.1 h1; exact (List.mem_filter.1 hX).2
set_option maxRecDepth 100000 in
set_option maxHeartbeats 4000000 in
theorem rtwice_any (g : Int) {B D : Nat} {lo hi : Int} {v : Value} {ks : List KX} (w : World) (h : RefAt B w D lo hi v ks) (hB : B ≤ w.heap.size) :
    Calls Tryz.prog 12 #[.pointer (some ⟨D, 0, none⟩), .int .i64 g] w (TwiceTo w (twiceL g (cellsOf ks))) := by
  have HH := hid h; have HBS := hid hB
  have HKL := hid h.len
  obtain ⟨va, vc, rfl⟩ := h.slice
  clear h hB
  go_enter Tryz.func12, Tryz.ntmps12
  go_upto_region 1 with (fail)
  have s0 := cell_obj (i := 0) HH.out.obj (v := .int .i64 lo) rfl
  have s1 := cell_obj (i := 1) HH.out.obj (v := .int .i64 hi) rfl
  refine wp_region_plan (by kernel_rfl) (by kernel_rfl) [] [9, 10] (by kernel_rfl) (fun _ _ d _ _ h => by cases d <;> exact h) (Later) (Later.refl) (Later.trans) (fun _ => none) (fun _ _ _ _ _ h => by cases h) ?_
  simp only [body, tail, numbered, Nat.reduceAdd, List.filter_cons, List.filter_nil, List.contains_cons, List.contains_nil, Nat.reduceBEq, Bool.or_false, Bool.or_true, Bool.false_or, Bool.true_or, Bool.not_true, Bool.not_false, Bool.and_true, Bool.and_false, Bool.true_and, Bool.false_and, if_true, if_false, reduceIte, Bool.false_eq_true, List.map_cons, List.map_nil]
  simp only [Pures]
  refine LexS.out ?_
  iterate 9
    first
    | (refine LexS.skip rfl ?_; simp only [Act.put, List.setIfInBounds_toArray, List.set])
    | (refine LexS.one' rfl rfl ?_
       apply Exists.intro
       refine ⟨fun w hR hF => ?_, ?_⟩
       · have hP := hR
         repeat (first | replace hP := Later.of_drew hP | replace hP := Later.of_drewN hP | replace hP := Later.of_alloc hP)
         have hcs := hR.cells
         have zs0 := hP.cell s0
         have zs1 := hP.cell s1
         clear hR hF hP
         go_simp
         first | done | rfl
       simp only [Act.put, List.setIfInBounds_toArray, List.set])
  refine LexS.nil ?_
  intro w1 hR1 hF9
  clear hF9
  repeat (first | replace hR1 := Later.of_drew hR1 | replace hR1 := Later.of_drewN hR1 | replace hR1 := Later.of_alloc hR1)
  obtain ⟨T, hT⟩ : ∃ T, T = w1.heap.size := ⟨_, rfl⟩
  obtain ⟨w2, hw2⟩ : ∃ W, W = w1.alloc (.cells #[.int .i64 lo, .int .i64 hi, .slice none 0 0] 31 (0, 0)) := ⟨_, rfl⟩
  have HTW : Hid (w.heap.size ≤ T) := hid (by rw [hT]; exact hR1.size)
  have HL2 : Hid (Later w w2) := hid (by rw [hw2]; exact Later.trans _ _ _ hR1 (Later.alloc _ _))
  have HO2 : Hid (w2.heap[T]? = some (.cells #[.int .i64 lo, .int .i64 hi, .slice none 0 0] 31 (0, 0))) := hid (by rw [hw2, hT]; exact obj_new _ _)
  clear s0 s1
  go_upto_region 2 with (fail)
  rw [← hw2, ← hT]
  clear hw2 hT hR1
  have HM2 : Hid (RefMem B w2 T lo hi (.slice none 0 0) []) := hid ⟨HO2.out, ⟨rfl, .inl ⟨rfl, rfl⟩⟩, fun x hx => (by cases hx), Nat.le_trans HBS.out HTW.out⟩
  go_wp2_with fail
  obtain ⟨R1, hR1⟩ : ∃ RR_ : (Nat → Value) → World → Prop, RR_ = (fun us wx => ∃ (i : Nat) (z : Int) (ga : Option Addr) (gc : Nat), us 7 = .int .i64 i ∧ us 6 = .int .i64 z ∧ i ≤ ks.length ∧ LastIx g ks i z ∧ RefMem B wx T lo hi (.slice ga (grpK g (ks.take i)).length gc) (grpK g (ks.take i)) ∧ Later w wx ∧ ∀ b, (Value.slice ga (grpK g (ks.take i)).length gc).ownBlock = some b → w.heap.size ≤ b) := ⟨_, rfl⟩
  obtain ⟨mu1, hmu1⟩ : ∃ mu : (Nat → Value) → World → Nat, mu = (fun us _ => ks.length - (intOf (us 7)).toNat) := ⟨_, rfl⟩
  have HR1 := hid hR1; have Hmu1 := hid hmu1; clear hR1 hmu1
  refine wp_loop_frame' [false, false, false, false, false, false, true, true, true, false, false, false, false, false, false, false, false, false, false, false, false, true, true, true, true, true, true, true, true, true, true, true, true, true, true, true, true, true, true, true, true, true, true, true, true, true, true, true, true, true, true, true, true, true, true, true, true, true, true] R1 _ mu1 HR1.out ?_ ?_
  · exact ⟨0, -1, none, 0, rfl, rfl, Nat.zero_le _, .inl ⟨rfl, rfl⟩, HM2.out, HL2.out, fun b hb => by cases hb⟩
  clear HM2 HL2 HO2
  intro us1 wx hrel
  obtain ⟨i, z, ga, gc, h7, h6, hi, hlast, hmem, hL, hob⟩ := hrel
  simp only [frameOf, Nat.reduceAdd, h7, h6]
  have Hh7 := hid h7; clear h7
  have Hh6 := hid h6; clear h6
  have HI := hid hi; have HLA := hid hlast; have HL := hid hL
  obtain ⟨gs, hgs⟩ : ∃ gs, gs = grpK g (ks.take i) := ⟨_, rfl⟩
  rw [← hgs] at hmem hob
  have HRM0 := hid hmem; have HOB := hid hob; have HGS := hid hgs
  have HGL : Hid (gs.length ≤ 2097152) := hid (by rw [hgs]; unfold grpK; have h1 := List.length_filter_le (fun x : KX => inGroup g x.cell) (ks.take i); rw [List.length_take] at h1; have := HKL.out; omega)
  clear hi hlast hL hmem hob hgs
  have c2 := cell_obj (i := 2) (HL.out.obj HH.out.obj) (v := .slice va ks.length vc) rfl
  by_cases hlt : i < ks.length
  case neg =>
    have hie : i = ks.length := by have := HI.out; omega
    have HTK : Hid (ks.take i = ks) := hid (List.take_of_length_le (by omega))
    have HGM : Hid (∀ x ∈ gs, x ∈ ks) := hid fun x hx => by rw [HGS.out, HTK.out] at hx; exact (List.mem_filter.1 hx).1
    have HGW : Hid (weightL (cellsOf gs) ≤ 67108864) := hid (by
      have h1 : cellsOf gs = (cellsOf ks).filter (inGroup g) := by rw [HGS.out, HTK.out]; exact grpK_map g ks
      rw [h1]
      exact Nat.le_trans (weightL_filter_le _ _) HH.out.st.full)
    rcases HLA.out with ⟨hz, hnil⟩ | ⟨p, hp, hz, hlast⟩
    · subst hz
      have HNIL : Hid (gs = []) := hid (by rw [HGS.out, hnil])
      have HFIN : Hid (grpE g gs = twiceL g (cellsOf ks)) := hid (by rw [twiceL_nil (by rw [← hnil, HTK.out]), HNIL.out]; rfl)
      have HEN := hid (enc_ok HH.out HGM.out (by have := HGW.out; omega) (by have := HGL.out; omega))
      clear hnil
      go_wp2_with fail
      refine (rpiece_any g _ HRM0.out HEN.out).mono ?_
      rintro e w3 ⟨v3, b3, rfl, ho3, hL3⟩
      rw [HFIN.out] at ho3
      have HO3 := hid (own_base ho3 HL.out.size)
      have HL3 := hid (Later.trans _ _ _ HL.out hL3)
      obtain ⟨a3, c3, rfl⟩ := ownsRow_slice ho3
      clear ho3 hL3
      go_wp2_with fail
      go_ret
      exact ⟨_, rfl, HO3.out, HL3.out⟩
    · subst hz
      obtain ⟨g0, rfl, -, q0, q1, q2, q3, -⟩ := OwnC.cells (HH.out.own) hp
      have hheld := HH.out.held _ (List.getElem_mem hp)
      have hmem := List.getElem_mem hp
      generalize ks[p] = X at q0 q1 q2 q3 hheld hlast hmem
      obtain ⟨ka, kc, da, dc, hkv, hdv⟩ := KX.key hheld
      have HHX : Hid (HeldIn (fun b => B ≤ b ∧ b < w.heap.size) w X) := hid (hheld.mono fun b hb hl => ⟨hb.1, hl⟩)
      obtain ⟨x1, hx1⟩ : ∃ x1, X.cell.win.1 = x1 := ⟨_, rfl⟩
      obtain ⟨x2, hx2⟩ : ∃ x2, X.cell.win.2 = x2 := ⟨_, rfl⟩
      have HXC := hid (And.intro hkv (And.intro hx1 (And.intro hx2 hdv)))
      rw [hx1] at q1
      rw [hx2] at q2
      rw [hkv] at q0
      rw [hdv] at q3
      have HFIN : Hid (grpE g (gs ++ [X]) = twiceL g (cellsOf ks)) := hid (by rw [HGS.out, HTK.out]; rw [HTK.out] at hlast; exact twiceL_last hlast)
      have HXW : Hid (CellP.weight X.cell ≤ 67108864) := hid (Nat.le_trans (weightL_mem (List.mem_map.2 ⟨X, hmem, rfl⟩)) HH.out.st.full)
      have HEN := hid (enc_ok HH.out (l := gs ++ [X]) (fun x hx => by
        rcases List.mem_append.1 hx with h1 | h1
        · exact HGM.out x h1
        · obtain rfl := List.mem_singleton.1 h1; exact hmem) (by
          have e : cellsOf (gs ++ [X]) = cellsOf gs ++ [X.cell] := by unfold cellsOf; rw [List.map_append]; rfl
          rw [e, weightL_app]
          have h1 : weightL [X.cell] = X.cell.weight := by simp [weightL]
          have := HGW.out; have := HXW.out; omega) (by rw [List.length_append]; have := HGL.out; simp; omega))
      have HQ := hid (And.intro q0 (And.intro q1 (And.intro q2 q3)))
      have hp0 : (0 : Int) ≤ p := by omega
      have hpl : (p : Int) < ks.length := by omega
      obtain ⟨wq, hwq⟩ : ∃ W, W = wx := ⟨_, rfl⟩
      have HLQ := HL; have HRM := HRM0
      rw [← hwq] at HLQ HRM ⊢
      clear hheld hlast hmem hkv hdv hx1 hx2 q0 q1 q2 q3 hie hp c2 hwq
      have c2 := cell_obj (i := 2) (HLQ.out.obj HH.out.obj) (v := .slice (some ⟨g0, 0, none⟩) ks.length vc) rfl
      go_upto_region 11 with (fail)
      have d2 := cell_obj (i := 2) HRM.out.obj (v := .slice ga gs.length gc) rfl
      have q0 := HLQ.out.cell HQ.out.1; have q1 := HLQ.out.cell HQ.out.2.1; have q2 := HLQ.out.cell HQ.out.2.2.1; have q3 := HLQ.out.cell HQ.out.2.2.2
      refine wp_region_plan (by kernel_rfl) (by kernel_rfl) [0] [13, 14, 15, 16] (by kernel_rfl) (fun _ _ d _ _ h => by cases d <;> exact h) (Later) (Later.refl) (Later.trans) (kinds [(12, OneCell X wq.heap.size)]) (kinds_still (by simp only [List.mem_cons, List.not_mem_nil, or_false, forall_eq]; exact fun _ _ _ hR h => h.later hR)) ?_
      simp only [body, tail, numbered, Nat.reduceAdd, List.filter_cons, List.filter_nil, List.contains_cons, List.contains_nil, Nat.reduceBEq, Bool.or_false, Bool.or_true, Bool.false_or, Bool.true_or, Bool.not_true, Bool.not_false, Bool.and_true, Bool.and_false, Bool.true_and, Bool.false_and, if_true, if_false, reduceIte, Bool.false_eq_true, List.map_cons, List.map_nil]
      refine Pures.cons rfl ?_
      apply Exists.intro
      refine ⟨fun w => ?_, ?_⟩
      · go_simp
        first | done | rfl
      simp only [Act.put, List.setIfInBounds_toArray, List.set]
      simp only [Pures]
      refine LexS.out ?_
      iterate 11
        first
        | (refine LexS.skip rfl ?_; simp only [Act.put, List.setIfInBounds_toArray, List.set])
        | (refine LexS.one' rfl rfl ?_
           apply Exists.intro
           refine ⟨fun w hR hF => ?_, ?_⟩
           · have hP := hR
             repeat (first | replace hP := Later.of_drew hP | replace hP := Later.of_drewN hP | replace hP := Later.of_alloc hP)
             have hcs := hR.cells
             have zc2 := hP.cell c2
             have zd2 := hP.cell d2
             have zq0 := hP.cell q0
             have zq1 := hP.cell q1
             have zq2 := hP.cell q2
             have zq3 := hP.cell q3
             clear hR hF hP
             go_simp
             first | done | rfl
           simp only [Act.put, List.setIfInBounds_toArray, List.set])
      refine LexS.any rfl rfl (fun w9 hR hF => ?_) ?_
      · have hP := hR
        repeat (first | replace hP := Later.of_drew hP | replace hP := Later.of_drewN hP | replace hP := Later.of_alloc hP)
        have hsz := hP.size
        clear hR hP hF c2 d2 q0 q1 q2 q3
        unfold Runs
        go_simp
        exact yield_value (Later.alloc _ _) ⟨w9.heap.size, rfl, by rw [HXC.out.1, HXC.out.2.1, HXC.out.2.2.1, HXC.out.2.2.2]; exact obj_new _ _, hsz⟩
      rintro vk ⟨wk, hRk, hFk⟩
      obtain ⟨bk, rfl, -, -⟩ := hFk _ List.mem_cons_self _ rfl
      clear hFk hRk wk
      simp only [Act.put, List.setIfInBounds_toArray, List.set]
      refine LexS.nil ?_
      intro w9 hR9 hF9
      obtain ⟨bk', ek, hbk, hbs⟩ := hF9 _ List.mem_cons_self _ rfl
      simp only [Value.slice.injEq, Option.some.injEq, Addr.mk.injEq] at ek
      obtain ⟨⟨rfl, -, -⟩, -, -⟩ := ek
      clear hF9
      repeat (first | replace hR9 := Later.of_drew hR9 | replace hR9 := Later.of_drewN hR9 | replace hR9 := Later.of_alloc hR9)
      have HBK := hid hbk
      have HM9 := hid (HRM.out.later hR9)
      have HX9 := hid (HHX.out.later (Later.trans _ _ _ HLQ.out hR9))
      have HL9 := hid (Later.trans _ _ _ HLQ.out hR9)
      clear hR9 hbk hbs c2 d2 q0 q1 q2 q3
      go_wp2_with (at_builtin; go_loud (refine wpList_append_obj rfl _ _ 29 rfl 73 4 64 Tryz.underlying29 rcellElem rfl HM9.out.own (news := X.cells) rfl HBK.out rfl (kx_ones HX9.out) ?c1 ?c2 ?c3 ?_))
      case c1 => have := HGL.out; omega
      case c2 => have := HGL.out; unfold maxLen; omega
      case c3 => have := HBS.out; have := HL9.out.size; omega
      intro v' w10 hA
      have hown : OwnC B w10 v' (gs ++ [X]) := by
        have := hA.own
        unfold OwnC
        rw [kxCells_app, List.length_append]
        exact this
      have hown' := hown
      unfold OwnC at hown
      obtain ⟨n', hn'⟩ : ∃ n', n' = (gs ++ [X]).length := ⟨_, rfl⟩
      have HNN := hid hn'
      rw [← hn'] at hown
      obtain ⟨pa, pc, rfl⟩ := ownsRow_slice hown
      have hLo : Later w w10 := Keeps.later (((HL9.out.keeps (fun _ => True)).low (hA.keeps.mono fun b hb (hb2 : b < w.heap.size) e => by have := HOB.out b e.symm; omega)))
      have hD10 := hA.obj HM9.out.obj (fun e => HM9.out.ne e.symm)
      have HOW := hid hown; have HBL := hid hA.block; have HK10 := hid hA.keeps; have HLO := hid hLo
      have d2 := cell_obj (i := 2) hD10 (v := .slice ga gs.length gc) rfl
      have f2 := free_obj (i := 2) hD10
      have HD10 := hid hD10
      clear hA hown hown' hD10 hn' hLo
      go_upto_region 12 with (fail)
      obtain ⟨w11, hw11⟩ : ∃ W, W = w10.setCell ⟨T, 2, none⟩ (.slice pa n' pc) := ⟨_, rfl⟩
      have HK11 : Hid (Keeps (fun b => b ≠ T) w10 w11) := hid (by rw [hw11]; exact (Keeps.refl (fun b => b ≠ T) w10).setCell (p := ⟨T, 2, none⟩) (.inl fun h => h rfl) _)
      have hD11 := obj_setCell (i := 2) HD10.out (.slice pa n' pc)
      simp only [List.setIfInBounds_toArray, List.set] at hD11
      have hO11 := own_set HOW.out (p := ⟨T, 2, none⟩) (own_ne HOW.out HD10.out (by decide)) (.slice pa n' pc)
      rw [← hw11] at hD11 hO11 ⊢
      clear hw11 d2 f2
      have hKA : Keeps (fun b => b ≠ T ∧ (Value.slice ga gs.length gc).ownBlock ≠ some b) w9 w11 := (HK10.out.mono fun b _ hb => fun e => hb.2 e.symm).trans (HK11.out.mono fun b _ hb => hb.1)
      have HM11 : Hid (RefMem B w11 T lo hi (.slice pa n' pc) (gs ++ [X])) := hid (by
        refine ⟨hD11, by unfold OwnC; rw [← HNN.out]; exact hO11, fun x hx => ?_, HRM.out.base⟩
        have hx9 : HeldIn (fun b => B ≤ b ∧ b ≠ T ∧ (Value.slice ga gs.length gc).ownBlock ≠ some b) w9 x := by
          rcases List.mem_append.1 hx with h1 | h1
          · exact HM9.out.held x h1
          · obtain rfl := List.mem_singleton.1 h1
            exact HX9.out.mono fun b hb _ => ⟨hb.1, by have := HTW.out; omega, fun e => by have := HOB.out b e; omega⟩
        have hnew : ∀ b, b < w9.heap.size → (Value.slice ga gs.length gc).ownBlock ≠ some b → (Value.slice pa n' pc).ownBlock ≠ some b := fun b hb h1 e => by
          rcases HBL.out with h2 | ⟨g, h2, h3⟩
          · exact h1 (h2 ▸ e)
          · rw [h2] at e; injection e with e; omega
        exact (hx9.mono (U' := fun b => B ≤ b ∧ b ≠ T ∧ (Value.slice ga gs.length gc).ownBlock ≠ some b ∧ (Value.slice pa n' pc).ownBlock ≠ some b) fun b hb hl => ⟨hb.1, hb.2.1, hb.2.2, hnew b hl hb.2.2⟩).kept hKA (fun b hb _ => ⟨hb.2.1, hb.2.2.1⟩) |>.mono fun b hb _ => ⟨hb.1, hb.2.1, hb.2.2.2⟩)
      have HL11 : Hid (Later w w11) := hid (Keeps.later ((HLO.out.keeps (fun _ => True)).low (HK11.out.mono fun b _ (hb : b < w.heap.size) => by have := HTW.out; omega)))
      have HOB11 : Hid (∀ b, (Value.slice pa n' pc).ownBlock = some b → w.heap.size ≤ b) := hid fun b hb => by
        rcases HBL.out with h2 | ⟨g, h2, h3⟩
        · exact HOB.out b (h2 ▸ hb)
        · rw [h2] at hb; injection hb with hb; have := HL9.out.size; omega
      clear hKA hD11 hO11 HM9 HX9 HBL HK10 HK11 HD10 HOW HLO
      go_wp2_with fail
      refine (rpiece_any g _ HM11.out HEN.out).mono ?_
      rintro e w3 ⟨v3, b3, rfl, ho3, hL3⟩
      rw [HFIN.out] at ho3
      have HO3 := hid (own_base ho3 HL11.out.size)
      have HL3 := hid (Later.trans _ _ _ HL11.out hL3)
      obtain ⟨a3, c3, rfl⟩ := ownsRow_slice ho3
      clear ho3 hL3
      go_wp2_with fail
      go_ret
      exact ⟨_, rfl, HO3.out, HL3.out⟩
  have HLT := hid hlt
  obtain ⟨g0, rfl, -, q0, q1, q2, q3, -⟩ := OwnC.cells (HH.out.own) hlt
  have hheld := HH.out.held _ (List.getElem_mem hlt)
  have hok := HH.out.ok _ (List.getElem_mem hlt)
  have htk := grpK_take (g := g) hlt
  generalize hx : ks[i] = X at q0 q1 q2 q3 hheld hok htk
  have HXI : Hid (∀ p, ks[i]'p = X) := hid fun _ => hx
  obtain ⟨ka, kc, da, dc, hkv, hdv⟩ := KX.key hheld
  have HHX : Hid (HeldIn (fun b => B ≤ b ∧ b < w.heap.size) w X) := hid (hheld.mono fun b hb hl => ⟨hb.1, hl⟩)
  obtain ⟨x1, hx1⟩ : ∃ x1, X.cell.win.1 = x1 := ⟨_, rfl⟩
  obtain ⟨x2, hx2⟩ : ∃ x2, X.cell.win.2 = x2 := ⟨_, rfl⟩
  have HXC := hid (And.intro hkv (And.intro hx1 (And.intro hx2 hdv)))
  rw [hx1] at q1
  rw [hx2] at q2
  have HOKX := hid hok; have HTKX := hid htk
  rw [hkv] at q0
  rw [hdv] at q3
  have HQ0 := hid q0; have HQ1 := hid q1; have HQ2 := hid q2; have HQ3 := hid q3
  replace q0 := HL.out.cell q0
  clear hx hheld hok htk q1 q2 q3 hkv hdv hx1 hx2
  have hi2 : (i : Int) + 1 ≤ 9223372036854775807 := by have := HKL.out; omega
  go_wp2_with fail
  refine (rgroup_any X.cell.key _ _ (by have h1 := (HHX.out.later HL.out).1; rw [HXC.out.1] at h1; exact h1.all) HOKX.out).mono ?_
  rintro e wq ⟨rfl, hLq⟩
  have HLQ := hid (Later.trans _ _ _ HL.out hLq)
  have HRM := hid (HRM0.out.later hLq)
  clear hLq c2 q0
  by_cases hg : (groupK X.cell.key : Int) = g
  case neg =>
    have HTK2 : Hid (grpK g (ks.take (i + 1)) = gs) := hid (by rw [HTKX.out, if_neg (by unfold inGroup; simp only [decide_eq_true_eq]; exact hg), List.append_nil, HGS.out])
    have HLA2 : Hid (LastIx g ks (i + 1) z) := hid (by unfold LastIx; rw [HTK2.out, HGS.out]; exact HLA.out)
    have hgn : ((groupK X.cell.key : Int) == g) = false := by simpa using hg
    clear hg
    go_wp2_with fail
    refine Round.mk' HR1.out Hmu1.out rfl ?_ ?_
    · exact ⟨i + 1, z, ga, gc, by show Value.int .i64 ((i : Int) + 1) = _; rw [Int.natCast_add]; rfl, rfl, HLT.out, HLA2.out, by rw [HTK2.out]; exact HRM.out, HLQ.out, by rw [HTK2.out]; exact HOB.out⟩
    · show ks.length - (intOf (.int .i64 ((i : Int) + 1))).toNat < ks.length - (intOf (us1 7)).toNat
      rw [Hh7.out]
      have := HLT.out
      simp only [intOf]
      omega
  have HTK2 : Hid (grpK g (ks.take (i + 1)) = gs ++ [X]) := hid (by rw [HTKX.out, if_pos (by unfold inGroup; simp only [decide_eq_true_eq]; exact hg), HGS.out])
  have HLA2 : Hid (LastIx g ks (i + 1) i) := hid (.inr ⟨i, HLT.out, rfl, by rw [HTK2.out, HXI.out]; simp⟩)
  have hgy : ((groupK X.cell.key : Int) == g) = true := by rw [hg]; simp
  clear hg
  go_upto_region 8 with (fail)
  have c2 := cell_obj (i := 2) (HLQ.out.obj HH.out.obj) (v := .slice (some ⟨g0, 0, none⟩) ks.length vc) rfl
  have d2 := cell_obj (i := 2) HRM.out.obj (v := .slice ga gs.length gc) rfl
  have q0 := HLQ.out.cell HQ0.out; have q1 := HLQ.out.cell HQ1.out; have q2 := HLQ.out.cell HQ2.out; have q3 := HLQ.out.cell HQ3.out
  clear hgy
  refine wp_region_plan (by kernel_rfl) (by kernel_rfl) [0] [13, 14, 15, 16] (by kernel_rfl) (fun _ _ d _ _ h => by cases d <;> exact h) (Later) (Later.refl) (Later.trans) (kinds [(12, OneCell X wq.heap.size)]) (kinds_still (by simp only [List.mem_cons, List.not_mem_nil, or_false, forall_eq]; exact fun _ _ _ hR h => h.later hR)) ?_
  simp only [body, tail, numbered, Nat.reduceAdd, List.filter_cons, List.filter_nil, List.contains_cons, List.contains_nil, Nat.reduceBEq, Bool.or_false, Bool.or_true, Bool.false_or, Bool.true_or, Bool.not_true, Bool.not_false, Bool.and_true, Bool.and_false, Bool.true_and, Bool.false_and, if_true, if_false, reduceIte, Bool.false_eq_true, List.map_cons, List.map_nil]
  refine Pures.cons rfl ?_
  apply Exists.intro
  refine ⟨fun w => ?_, ?_⟩
  · go_simp
    first | done | rfl
  simp only [Act.put, List.setIfInBounds_toArray, List.set]
  simp only [Pures]
  refine LexS.out ?_
  iterate 11
    first
    | (refine LexS.skip rfl ?_; simp only [Act.put, List.setIfInBounds_toArray, List.set])
    | (refine LexS.one' rfl rfl ?_
       apply Exists.intro
       refine ⟨fun w hR hF => ?_, ?_⟩
       · have hP := hR
         repeat (first | replace hP := Later.of_drew hP | replace hP := Later.of_drewN hP | replace hP := Later.of_alloc hP)
         have hcs := hR.cells
         have zc2 := hP.cell c2
         have zd2 := hP.cell d2
         have zq0 := hP.cell q0
         have zq1 := hP.cell q1
         have zq2 := hP.cell q2
         have zq3 := hP.cell q3
         clear hR hF hP
         go_simp
         first | done | rfl
       simp only [Act.put, List.setIfInBounds_toArray, List.set])
  refine LexS.any rfl rfl (fun w9 hR hF => ?_) ?_
  · have hP := hR
    repeat (first | replace hP := Later.of_drew hP | replace hP := Later.of_drewN hP | replace hP := Later.of_alloc hP)
    have hsz := hP.size
    clear hR hP hF c2 d2 q0 q1 q2 q3
    unfold Runs
    go_simp
    exact yield_value (Later.alloc _ _) ⟨w9.heap.size, rfl, by rw [HXC.out.1, HXC.out.2.1, HXC.out.2.2.1, HXC.out.2.2.2]; exact obj_new _ _, hsz⟩
  rintro vk ⟨wk, hRk, hFk⟩
  obtain ⟨bk, rfl, -, -⟩ := hFk _ List.mem_cons_self _ rfl
  clear hFk hRk wk
  simp only [Act.put, List.setIfInBounds_toArray, List.set]
  refine LexS.nil ?_
  intro w9 hR9 hF9
  obtain ⟨bk', ek, hbk, hbs⟩ := hF9 _ List.mem_cons_self _ rfl
  simp only [Value.slice.injEq, Option.some.injEq, Addr.mk.injEq] at ek
  obtain ⟨⟨rfl, -, -⟩, -, -⟩ := ek
  clear hF9
  repeat (first | replace hR9 := Later.of_drew hR9 | replace hR9 := Later.of_drewN hR9 | replace hR9 := Later.of_alloc hR9)
  have HBK := hid hbk
  have HM9 := hid (HRM.out.later hR9)
  have HX9 := hid (HHX.out.later (Later.trans _ _ _ HLQ.out hR9))
  have HL9 := hid (Later.trans _ _ _ HLQ.out hR9)
  clear hR9 hbk hbs c2 d2 q0 q1 q2 q3
  go_wp2_with (at_builtin; go_loud (refine wpList_append_obj rfl _ _ 29 rfl 73 4 64 Tryz.underlying29 rcellElem rfl HM9.out.own (news := X.cells) rfl HBK.out rfl (kx_ones HX9.out) ?c1 ?c2 ?c3 ?_))
  case c1 => have := HGL.out; omega
  case c2 => have := HGL.out; unfold maxLen; omega
  case c3 => have := HBS.out; have := HL9.out.size; omega
  intro v' w10 hA
  have hown : OwnC B w10 v' (gs ++ [X]) := by
    have := hA.own
    unfold OwnC
    rw [kxCells_app, List.length_append]
    exact this
  have hown' := hown
  unfold OwnC at hown
  obtain ⟨n', hn'⟩ : ∃ n', n' = (gs ++ [X]).length := ⟨_, rfl⟩
  have HNN := hid hn'
  rw [← hn'] at hown
  obtain ⟨pa, pc, rfl⟩ := ownsRow_slice hown
  have hLo : Later w w10 := Keeps.later (((HL9.out.keeps (fun _ => True)).low (hA.keeps.mono fun b hb (hb2 : b < w.heap.size) e => by have := HOB.out b e.symm; omega)))
  have hD10 := hA.obj HM9.out.obj (fun e => HM9.out.ne e.symm)
  have HOW := hid hown; have HBL := hid hA.block; have HK10 := hid hA.keeps; have HLO := hid hLo
  have d2 := cell_obj (i := 2) hD10 (v := .slice ga gs.length gc) rfl
  have f2 := free_obj (i := 2) hD10
  have HD10 := hid hD10
  clear hA hown hown' hD10 hn' hLo
  go_upto_region 9 with (fail)
  obtain ⟨w11, hw11⟩ : ∃ W, W = w10.setCell ⟨T, 2, none⟩ (.slice pa n' pc) := ⟨_, rfl⟩
  have HK11 : Hid (Keeps (fun b => b ≠ T) w10 w11) := hid (by rw [hw11]; exact (Keeps.refl (fun b => b ≠ T) w10).setCell (p := ⟨T, 2, none⟩) (.inl fun h => h rfl) _)
  have hD11 := obj_setCell (i := 2) HD10.out (.slice pa n' pc)
  simp only [List.setIfInBounds_toArray, List.set] at hD11
  have hO11 := own_set HOW.out (p := ⟨T, 2, none⟩) (own_ne HOW.out HD10.out (by decide)) (.slice pa n' pc)
  rw [← hw11] at hD11 hO11 ⊢
  clear hw11 d2 f2
  have hKA : Keeps (fun b => b ≠ T ∧ (Value.slice ga gs.length gc).ownBlock ≠ some b) w9 w11 := (HK10.out.mono fun b _ hb => fun e => hb.2 e.symm).trans (HK11.out.mono fun b _ hb => hb.1)
  have HM11 : Hid (RefMem B w11 T lo hi (.slice pa n' pc) (gs ++ [X])) := hid (by
    refine ⟨hD11, by unfold OwnC; rw [← HNN.out]; exact hO11, fun x hx => ?_, HRM.out.base⟩
    have hx9 : HeldIn (fun b => B ≤ b ∧ b ≠ T ∧ (Value.slice ga gs.length gc).ownBlock ≠ some b) w9 x := by
      rcases List.mem_append.1 hx with h1 | h1
      · exact HM9.out.held x h1
      · obtain rfl := List.mem_singleton.1 h1
        exact HX9.out.mono fun b hb _ => ⟨hb.1, by have := HTW.out; omega, fun e => by have := HOB.out b e; omega⟩
    have hnew : ∀ b, b < w9.heap.size → (Value.slice ga gs.length gc).ownBlock ≠ some b → (Value.slice pa n' pc).ownBlock ≠ some b := fun b hb h1 e => by
      rcases HBL.out with h2 | ⟨g, h2, h3⟩
      · exact h1 (h2 ▸ e)
      · rw [h2] at e; injection e with e; omega
    exact (hx9.mono (U' := fun b => B ≤ b ∧ b ≠ T ∧ (Value.slice ga gs.length gc).ownBlock ≠ some b ∧ (Value.slice pa n' pc).ownBlock ≠ some b) fun b hb hl => ⟨hb.1, hb.2.1, hb.2.2, hnew b hl hb.2.2⟩).kept hKA (fun b hb _ => ⟨hb.2.1, hb.2.2.1⟩) |>.mono fun b hb _ => ⟨hb.1, hb.2.1, hb.2.2.2⟩)
  have HL11 : Hid (Later w w11) := hid (Keeps.later ((HLO.out.keeps (fun _ => True)).low (HK11.out.mono fun b _ (hb : b < w.heap.size) => by have := HTW.out; omega)))
  have HOB11 : Hid (∀ b, (Value.slice pa n' pc).ownBlock = some b → w.heap.size ≤ b) := hid fun b hb => by
    rcases HBL.out with h2 | ⟨g, h2, h3⟩
    · exact HOB.out b (h2 ▸ hb)
    · rw [h2] at hb; injection hb with hb; have := HL9.out.size; omega
  clear hKA hD11 hO11 HM9 HX9 HBL HK10 HK11 HD10 HOW HLO
  go_wp2_with fail
  refine Round.mk' HR1.out Hmu1.out rfl ?_ ?_
  · exact ⟨i + 1, i, pa, pc, by show Value.int .i64 ((i : Int) + 1) = _; rw [Int.natCast_add]; rfl, rfl, HLT.out, HLA2.out, by rw [HTK2.out, ← HNN.out]; exact HM11.out, HL11.out, by rw [HTK2.out, ← HNN.out]; exact HOB11.out⟩
  · show ks.length - (intOf (.int .i64 ((i : Int) + 1))).toNat < ks.length - (intOf (us1 7)).toNat
    rw [Hh7.out]
    have := HLT.out
    simp only [intOf]
    omega
end Go.Proofs.YtgcnchmnciihnaaGreatDoor
