/-
  PROVED HERE: the contract of the document's Take of a gate, at a time.
-/
import Derived.Test.YthfgjmdmcoogpaaDoorRefOpen
import Derived.Test.YthfgjmdmcoogpaaDoorFrame
namespace Go.Proofs.YthfgjmdmcoogpaaDoor
open Go.RowKit

def RTakeTo (w : World) (R A M cA cM : Nat) (r : Rg × Int × List Elem) (e : Ending) (w' : World) : Prop :=
  ∃ sv, e = .returned (.tuple #[sv, .int .i64 r.2.1]) ∧ RAt w' R A M cA cM r.1 ∧ ElemsOwn w.heap.size w' sv r.2.2 ∧ Keeps (fun b => b ≠ R ∧ b ≠ A ∧ b ≠ M) w w'
theorem rOpen_lt {g : Rg} {k : Int} (h : rOpen g k = true) : ∃ n : Nat, k = n ∧ n < g.ms.length ∧ g.ms.getD n 0 = 0 := by
  simp only [rOpen, Bool.and_eq_true, decide_eq_true_eq] at h
  obtain ⟨h0, h1⟩ := h
  refine ⟨k.toNat, by omega, ?_⟩
  cases hx : g.ms[k.toNat]? with
  | none => rw [hx] at h1; cases h1
  | some x =>
    rw [hx] at h1
    refine ⟨(List.getElem?_eq_some_iff.1 hx).1, ?_⟩
    rw [List.getD_eq_getElem?_getD, hx]
    simpa using h1
theorem foldl_min_take {l : List Int} {n : Nat} (h : n < l.length) (t : Int) : (l.take (n + 1)).foldl min t = min ((l.take n).foldl min t) l[n] := by
  rw [List.take_succ_eq_append_getElem h, List.foldl_append]
  rfl
theorem RAt.set_time {w : World} {R A M cA cM n : Nat} {g : Rg} (h : RAt w R A M cA cM g) (hd : R ≠ A ∧ R ≠ M ∧ A ≠ M) (hn : n < g.ts.length) (t : Int) : RAt (w.setCell ⟨A, n, none⟩ (.int .i64 t)) R A M cA cM { g with ts := g.ts.set n t } := by
  refine ⟨?_, h.times.set hn t, h.marks.other (p := ⟨A, n, none⟩) (fun e => hd.2.2 e.symm) _⟩
  rw [Below.heap_setCell _ ⟨A, n, none⟩ _ _ hd.1]
  simp only [List.length_set]
  exact h.obj
theorem RAt.set_told {w : World} {R A M cA cM : Nat} {g : Rg} (h : RAt w R A M cA cM g) (hd : R ≠ A ∧ R ≠ M ∧ A ≠ M) (t : Int) : RAt (w.setCell ⟨R, 2, none⟩ (.int .i64 t)) R A M cA cM { g with told := t } :=
  ⟨obj_setCell (i := 2) h.obj _, h.times.other (p := ⟨R, 2, none⟩) (fun e => hd.1 e.symm) _, h.marks.other (p := ⟨R, 2, none⟩) (fun e => hd.2.1 e.symm) _⟩

set_option maxRecDepth 100000 in
set_option maxHeartbeats 4000000 in
theorem ref_take_time (R A M cA cM : Nat) (g : Rg) (k : Int) (e : Elem) (v : Value) (w : World) (k2 : e.kind = 2) (ho : rOpen g k = true) (h : RAt w R A M cA cM g) (hd : R ≠ A ∧ R ≠ M ∧ A ≠ M) (hl1 : g.ts.length = g.ms.length) (hl2 : g.ms.length ≤ 64) (hv : IsVals w v e.row.vals) :
    Calls Tryd.prog 32 #[.pointer (some ⟨R, 0, none⟩), .int .i64 k, .agg #[.int .i64 e.kind, .int .i64 e.row.time, v, .int .i64 e.time, .int .i64 e.mark]] w (RTakeTo w R A M cA cM (rTake g k e)) := by
  obtain ⟨n, rfl, hlt, -⟩ := rOpen_lt ho
  have HO := hid ho; have HG := hid h; have HD := hid hd
  have hlt' : n < g.ts.length := by omega
  have HX : Hid (g.ts[n]?.getD 0 = g.ts[n]) := hid (by simp [List.getElem?_eq_getElem hlt'])
  have hq := h.times.at_ hlt'
  obtain ⟨x, hx⟩ : ∃ x, x = g.ts[n] := ⟨_, rfl⟩
  rw [← hx] at hq HX
  obtain ⟨va, vc, rfl, -⟩ := hv
  have hnn : (0 : Int) ≤ n := by omega
  have hnt : (n : Int) < g.ts.length := by omega
  have hnt2 : g.ts.length ≤ 64 := by omega
  have HLL := hid hl1
  clear ho h hd hx hl1
  have go : ∀ (o : Obj) (w1 : World), Later (w.alloc o) w1 → RAt w1 R A M cA cM g ∧ Later w w1 := fun o w1 hL => ⟨HG.out.later (Later.of_alloc hL), Later.of_alloc hL⟩
  by_cases t1 : e.time ≤ x ∨ 1099511627777 < e.time
  · have HR : Hid (rTake g n e = (g, 4, [])) := hid (by simp [rTake, HO.out, k2, HX.out, t1])
    by_cases t2 : e.time ≤ x
    ·
      go_enter Tryd.func32, Tryd.ntmps32
      go_wp2_with fail
      refine (ref_gate_open R A M cA cM g n _ (HG.out.later (Later.alloc _ _)) hl2).mono ?_
      rintro e' w1 ⟨rfl, hL1⟩
      rw [HO.out]
      obtain ⟨hG1, hLw⟩ := go _ w1 hL1
      have hE := hL1.obj (obj_new w _)
      have e0 := cell_obj (i := 0) hE rfl
      have e2 := cell_obj (i := 3) hE rfl
      have r0 := cell_obj (i := 0) hG1.obj rfl
      have q0 := hLw.cell hq
      have HE1 := hid hE; have HG1 := hid hG1; have HLw := hid hLw
      clear hE hG1 hLw hL1 HG go
      go_wp2_with fail
      refine wp_region_lex (by kernel_rfl) (by kernel_rfl) Later Later.refl Later.trans (fun _ => none) (fun _ _ _ _ _ h => by cases h) ?_
      simp only [numbered, Nat.reduceAdd]
      iterate 15
        first
        | (refine Lex.skip rfl ?_; simp only [Act.put, List.setIfInBounds_toArray, List.set])
        | (refine Lex.one' rfl rfl ?_
           apply Exists.intro
           refine ⟨fun w hR hF => ?_, ?_⟩
           · have hP := hR
             repeat (first | replace hP := Later.of_drew hP | replace hP := Later.of_drewN hP | replace hP := Later.of_alloc hP)
             have hcs := hR.cells
             have ze2 := hP.cell e2
             have zr0 := hP.cell r0
             have zq0 := hP.cell q0
             clear hR hF hP
             go_simp
             first | done | rfl
           simp only [Act.put, List.setIfInBounds_toArray, List.set])
      intro w2 hR2 hF9
      clear hF9
      repeat (first | replace hR2 := Later.of_drew hR2 | replace hR2 := Later.of_drewN hR2 | replace hR2 := Later.of_alloc hR2)
      clear e0 e2 r0 q0
      go_wp2_with fail
      go_ret2
      rw [HR.out]
      exact ⟨_, rfl, HG1.out.later hR2, ElemsOwn.nil _ _, (Later.trans _ _ _ HLw.out hR2).keeps _⟩
    · have t2' : decide (e.time ≤ x) = false := decide_eq_false t2
      have t3' : decide (1099511627777 < e.time) = true := decide_eq_true (by omega)
      go_enter Tryd.func32, Tryd.ntmps32
      go_wp2_with fail
      refine (ref_gate_open R A M cA cM g n _ (HG.out.later (Later.alloc _ _)) hl2).mono ?_
      rintro e' w1 ⟨rfl, hL1⟩
      rw [HO.out]
      obtain ⟨hG1, hLw⟩ := go _ w1 hL1
      have hE := hL1.obj (obj_new w _)
      have e0 := cell_obj (i := 0) hE rfl
      have e2 := cell_obj (i := 3) hE rfl
      have r0 := cell_obj (i := 0) hG1.obj rfl
      have q0 := hLw.cell hq
      have HE1 := hid hE; have HG1 := hid hG1; have HLw := hid hLw
      clear hE hG1 hLw hL1 HG go
      go_wp2_with fail
      refine wp_region_lex (by kernel_rfl) (by kernel_rfl) Later Later.refl Later.trans (fun _ => none) (fun _ _ _ _ _ h => by cases h) ?_
      simp only [numbered, Nat.reduceAdd]
      iterate 15
        first
        | (refine Lex.skip rfl ?_; simp only [Act.put, List.setIfInBounds_toArray, List.set])
        | (refine Lex.one' rfl rfl ?_
           apply Exists.intro
           refine ⟨fun w hR hF => ?_, ?_⟩
           · have hP := hR
             repeat (first | replace hP := Later.of_drew hP | replace hP := Later.of_drewN hP | replace hP := Later.of_alloc hP)
             have hcs := hR.cells
             have ze2 := hP.cell e2
             have zr0 := hP.cell r0
             have zq0 := hP.cell q0
             clear hR hF hP
             go_simp
             first | done | rfl
           simp only [Act.put, List.setIfInBounds_toArray, List.set])
      intro w2 hR2 hF9
      clear hF9
      repeat (first | replace hR2 := Later.of_drew hR2 | replace hR2 := Later.of_drewN hR2 | replace hR2 := Later.of_alloc hR2)
      clear e0 e2 r0 q0
      go_wp2_with fail
      go_ret2
      rw [HR.out]
      exact ⟨_, rfl, HG1.out.later hR2, ElemsOwn.nil _ _, (Later.trans _ _ _ HLw.out hR2).keeps _⟩
  · have HR : Hid (rTake g n e = if (g.ts.set n e.time).foldl min e.time ≤ g.told then ({ g with ts := g.ts.set n e.time }, 0, [])
      else ({ g with ts := g.ts.set n e.time, told := (g.ts.set n e.time).foldl min e.time }, 0, [⟨2, ⟨0, []⟩, (g.ts.set n e.time).foldl min e.time, 0⟩])) := hid (by simp [rTake, HO.out, k2, HX.out, t1])
    have t1' : decide (e.time ≤ x) = false := decide_eq_false (by omega)
    have t2' : decide (1099511627777 < e.time) = false := decide_eq_false (by omega)
    go_enter Tryd.func32, Tryd.ntmps32
    go_wp2_with fail
    refine (ref_gate_open R A M cA cM g n _ (HG.out.later (Later.alloc _ _)) hl2).mono ?_
    rintro e' w1 ⟨rfl, hL1⟩
    rw [HO.out]
    obtain ⟨hG1, hLw⟩ := go _ w1 hL1
    have hE := hL1.obj (obj_new w _)
    have e0 := cell_obj (i := 0) hE rfl
    have e2 := cell_obj (i := 3) hE rfl
    have r0 := cell_obj (i := 0) hG1.obj rfl
    have q0 := hLw.cell hq
    have HE1 := hid hE; have HG1 := hid hG1; have HLw := hid hLw
    clear hE hG1 hLw hL1 HG go
    go_wp2_with fail
    refine wp_region_lex (by kernel_rfl) (by kernel_rfl) Later Later.refl Later.trans (fun _ => none) (fun _ _ _ _ _ h => by cases h) ?_
    simp only [numbered, Nat.reduceAdd]
    iterate 15
      first
      | (refine Lex.skip rfl ?_; simp only [Act.put, List.setIfInBounds_toArray, List.set])
      | (refine Lex.one' rfl rfl ?_
         apply Exists.intro
         refine ⟨fun w hR hF => ?_, ?_⟩
         · have hP := hR
           repeat (first | replace hP := Later.of_drew hP | replace hP := Later.of_drewN hP | replace hP := Later.of_alloc hP)
           have hcs := hR.cells
           have ze2 := hP.cell e2
           have zr0 := hP.cell r0
           have zq0 := hP.cell q0
           clear hR hF hP
           go_simp
           first | done | rfl
         simp only [Act.put, List.setIfInBounds_toArray, List.set])
    intro w2 hR2 hF9
    clear hF9
    repeat (first | replace hR2 := Later.of_drew hR2 | replace hR2 := Later.of_drewN hR2 | replace hR2 := Later.of_alloc hR2)
    clear e0
    replace e2 := hR2.cell e2
    replace r0 := hR2.cell r0
    have HG2 := hid (HG1.out.later hR2)
    have z0 := (HG2.out.times.free (n := n))
    have HE2 := hid (hR2.obj HE1.out)
    have HL2 := hid (Later.trans _ _ _ HLw.out hR2)
    replace q0 := hR2.cell q0
    clear hR2 HLw HE1 HG1
    go_wp2_with fail
    refine wp_region_plan (by kernel_rfl) (by kernel_rfl) [] [7, 8] (by kernel_rfl) (fun _ _ d _ _ h => by cases d <;> exact h) (Later) (Later.refl) (Later.trans) (fun _ => none) (fun _ _ _ _ _ h => by cases h) ?_
    simp only [body, tail, numbered, Nat.reduceAdd, List.filter_cons, List.filter_nil, List.contains_cons, List.contains_nil, Nat.reduceBEq, Bool.or_false, Bool.or_true, Bool.false_or, Bool.true_or, Bool.not_true, Bool.not_false, Bool.and_true, Bool.and_false, Bool.true_and, Bool.false_and, if_true, if_false, reduceIte, Bool.false_eq_true, List.map_cons, List.map_nil]
    simp only [Pures]
    iterate 7
      first
      | (refine Lex.skip rfl ?_; simp only [Act.put, List.setIfInBounds_toArray, List.set])
      | (refine Lex.one' rfl rfl ?_
         apply Exists.intro
         refine ⟨fun w hR hF => ?_, ?_⟩
         · have hP := hR
           repeat (first | replace hP := Later.of_drew hP | replace hP := Later.of_drewN hP | replace hP := Later.of_alloc hP)
           have hcs := hR.cells
           have ze2 := hP.cell e2
           have zr0 := hP.cell r0
           clear hR hF hP
           go_simp
           first | done | rfl
         simp only [Act.put, List.setIfInBounds_toArray, List.set])
    intro w3 hR3 hF3
    clear hF3
    repeat (first | replace hR3 := Later.of_drew hR3 | replace hR3 := Later.of_drewN hR3 | replace hR3 := Later.of_alloc hR3)
    replace e2 := hR3.cell e2
    replace r0 := hR3.cell r0
    replace q0 := hR3.cell q0
    have hG3 := HG2.out.later hR3
    have z0 := hG3.times.free (n := n)
    have HG4 := hid (hG3.set_time HD.out hlt' e.time)
    have HK4 : Hid (Keeps (fun b => b ≠ R ∧ b ≠ A ∧ b ≠ M) w (w3.setCell ⟨A, n, none⟩ (.int .i64 e.time))) := hid (((Later.trans _ _ _ HL2.out hR3).keeps _).setCell (.inl (fun h => h.2.1 rfl)) _)
    have HE4 : Hid ((w3.setCell ⟨A, n, none⟩ (.int .i64 e.time)).cell? ⟨w.heap.size, 3, none⟩ = some (.int .i64 e.time)) := hid (by
      have hlt2 := cell_lt hq
      rw [World.cell?_of_block (w := w3) (Below.heap_setCell _ ⟨A, n, none⟩ _ _ (by simp only at hlt2 ⊢; omega))]
      exact e2)
    have HGL : Hid ((g.ts.set n e.time).length = g.ts.length) := hid (List.length_set ..)
    obtain ⟨ts, hts⟩ : ∃ ts, ts = g.ts.set n e.time := ⟨_, rfl⟩
    have HTS := hid hts
    have HR' := HR.out
    simp only [← hts] at HR'
    rw [← hts] at HGL HG4
    have HR4 := hid HR'
    clear hts HR' HR HX HG2
    have e4 := HE4.out
    change wpList _ _ _ _ _ _
    go_wp2_with fail
    clear e4
    generalize w3.setCell ⟨A, n, none⟩ (.int .i64 e.time) = w4 at *
    obtain ⟨R1, hR1⟩ : ∃ RR_ : (Nat → Value) → World → Prop, RR_ = (fun us wr => ∃ j : Nat, j ≤ ts.length ∧ us 11 = .int .i64 j ∧ us 10 = .int .i64 ((ts.take j).foldl min e.time) ∧ wr = w4) := ⟨_, rfl⟩
    obtain ⟨mu1, hmu1⟩ : ∃ mu : (Nat → Value) → World → Nat, mu = (fun us _ => ts.length - (intOf (us 11)).toNat) := ⟨_, rfl⟩
    have HR1 := hid hR1; have Hmu1 := hid hmu1; clear hR1 hmu1
    refine wp_loop_frame' [false, false, false, false, false, false, false, false, false, false, true, true, false, false, false, false, false, false, false, false, false, false, false, false, false, false, false, false, false, false, false, false, false, false, false, false, false, false, false, false, false, false, false, false, false, false, false, false, false, false, false, false, false, false, false, false, false, true, true, true, true, true, true, true, true, true, true, true, true, true, true, true, true, true, true, true, true, true, true, true, true, true] R1 _ mu1 HR1.out ?_ ?_
    · exact ⟨0, by omega, rfl, rfl, rfl⟩
    ·
      intro us1 wr hrel
      obtain ⟨j, hj, h11, h10, rfl⟩ := hrel
      simp only [frameOf, Nat.reduceAdd, h11, h10]
      have Hh11 := hid h11; clear h11
      have Hh10 := hid h10; clear h10
      have HG5 := hid HG4.out.obj
      have r4 := cell_obj (i := 0) HG5.out rfl
      have s4 := cell_obj (i := 2) HG5.out rfl
      have hjl : ts.length ≤ 64 := by rw [HGL.out]; omega
      have hj0 : (0 : Int) ≤ j := by omega
      simp only at r4 s4
      by_cases hjt : j < ts.length
      · have q4 := HG4.out.times.at_ hjt
        have HS := hid (foldl_min_take hjt e.time)
        simp only at q4
        generalize ts[j] = y at *
        generalize (ts.take j).foldl min e.time = m at *
        by_cases hym : y < m
        · go_wp2_with fail
          refine Round.mk' HR1.out Hmu1.out rfl ?_ ?_
          · exact ⟨j + 1, by omega, by go_num, by rw [HS.out, Int.min_eq_right (by omega)]; rfl, rfl⟩
          · rw [Hh11.out]; simp [intOf, slots]; omega
        · go_wp2_with fail
          refine Round.mk' HR1.out Hmu1.out rfl ?_ ?_
          · exact ⟨j + 1, by omega, by go_num, by rw [HS.out, Int.min_eq_left (by omega)]; rfl, rfl⟩
          · rw [Hh11.out]; simp [intOf, slots]; omega
      · obtain rfl : j = ts.length := by omega
        simp only [List.take_length]
        have HR5 := HR4.out
        obtain ⟨lm, hlm⟩ : ∃ lm, lm = ts.foldl min e.time := ⟨_, rfl⟩
        rw [← hlm] at HR5
        simp only [← hlm]
        have HR6 := hid HR5
        have zr := free_obj (i := 2) HG5.out
        clear HR5 hlm hj
        by_cases hle : lm ≤ g.told
        · go_wp2_with fail
          go_ret2
          rw [HR6.out, if_pos hle]
          exact ⟨_, rfl, HG4.out, ElemsOwn.nil _ _, HK4.out⟩
        · go_wp2_with fail
          go_ret2
          rw [HR6.out, if_neg (by omega)]
          refine ⟨_, rfl, (HG4.out.set_told HD.out lm).later (Later.alloc _ _), ?_, (HK4.out.setCell (.inl (fun h => h.1 rfl)) _).alloc _⟩
          have := elemsOwn_one (B := w.heap.size) (w := wr.setCell ⟨R, 2, none⟩ (.int .i64 lm)) (e := ⟨2, ⟨0, []⟩, lm, 0⟩) (v := .slice none 0 0) (by simpa using HK4.out.size) (vals_nil _ _)
          rwa [World.size_setCell] at this
end Go.Proofs.YthfgjmdmcoogpaaDoor
