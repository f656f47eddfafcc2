/-
  PROVED HERE: streamwrightlaw9.GateSteps returns true, for every number and every script.
-/
import Derived.Test.YthfgjmdmcoogpaaDoorGatePlain
import Derived.Test.YthfgjmdmcoogpaaDoorRefTake
import Derived.Test.YthfgjmdmcoogpaaDoorGateTake
import Derived.Test.YthfgjmdmcoogpaaDoorOpenIn
import Derived.Test.YthfgjmdmcoogpaaDoorTold
import Derived.OwnWalk
namespace Go.Proofs.YthfgjmdmcoogpaaDoor
open Go.RowKit

def TimeTo (w : World) (t : Int) (e : Ending) (w' : World) : Prop := e = .returned (.int .i64 t) ∧ w' = w
theorem gate_time (G L : Nat) (g : Gt) (w : World) (h : GateAt w G L g) : Calls Tryd.prog 33 #[.pointer (some ⟨G, 0, none⟩)] w (TimeTo w g.time) := by
  have r1 := cell_obj (i := 1) h.obj rfl
  clear h
  go_enter Tryd.func33, Tryd.ntmps33
  go_wp2
  go_ret
  exact ⟨rfl, rfl⟩

/-- the law's memory. -/
structure LAt (W w : World) (G L R A M cA cM : Nat) (g : Gt) (r : Rg) : Prop where
  gate : GateAt w G L g
  ref : RAt w R A M cA cM r
  ne : (R ≠ A ∧ R ≠ M ∧ A ≠ M) ∧ G ≠ L ∧ (R ≠ G ∧ R ≠ L) ∧ (A ≠ G ∧ A ≠ L) ∧ M ≠ G ∧ M ≠ L
  new : W.heap.size ≤ G ∧ W.heap.size ≤ L ∧ W.heap.size ≤ R ∧ W.heap.size ≤ A ∧ W.heap.size ≤ M
  later : Later W w
section
variable {W w w' : World} {G L R A M cA cM : Nat} {g g' : Gt} {r r' : Rg}
theorem LAt.more (h : LAt W w G L R A M cA cM g r) (k : Later w w') : LAt W w' G L R A M cA cM g r := ⟨h.gate.later k, h.ref.later k, h.ne, h.new, Later.trans _ _ _ h.later k⟩
theorem LAt.took (h : LAt W w G L R A M cA cM g r) (hg : GateAt w' G L g') (k : Keeps (fun b => b ≠ G ∧ b ≠ L) w w') : LAt W w' G L R A M cA cM g' r :=
  have hn := h.ne
  ⟨hg, h.ref.kept k hn.2.2.1 hn.2.2.2.1 hn.2.2.2.2, h.ne, h.new, ((h.later.keeps (fun b => b ≠ G ∧ b ≠ L)).trans k).mono (S' := fun _ => True) (fun b hb _ => (have := h.new; ⟨by omega, by omega⟩)) |>.later⟩
theorem LAt.went (h : LAt W w G L R A M cA cM g r) (hr : RAt w' R A M cA cM r') (k : Keeps (fun b => b ≠ R ∧ b ≠ A ∧ b ≠ M) w w') : LAt W w' G L R A M cA cM g r' :=
  have hn := h.ne
  ⟨⟨k.obj ⟨fun e => hn.2.2.1.1 e.symm, fun e => hn.2.2.2.1.1 e.symm, fun e => hn.2.2.2.2.1 e.symm⟩ h.gate.obj, k.obj ⟨fun e => hn.2.2.1.2 e.symm, fun e => hn.2.2.2.1.2 e.symm, fun e => hn.2.2.2.2.2 e.symm⟩ h.gate.lanes⟩, hr, h.ne, h.new,
    ((h.later.keeps (fun b => b ≠ R ∧ b ≠ A ∧ b ≠ M)).trans k).mono (S' := fun _ => True) (fun b hb _ => (have := h.new; ⟨by omega, by omega, by omega⟩)) |>.later⟩
end

/-- a slice of one's own: its block, if it has one. -/
theorem own_spot {w : World} {B n c s : Nat} {e : TypeId} {a : Option Addr} {xs : List Value} (h : w.ownsRow B e s (.slice a n c) n xs) :
    ∃ ob : Option Nat, (∀ p, ob = some p → B ≤ p ∧ ∃ cur : Array Value, w.heap[p]? = some (.cells cur e (0, 0)) ∧ cur.size = c * s) ∧ (0 < n → ∃ p, ob = some p ∧ a = some ⟨p, 0, none⟩) ∧ n ≤ c := by
  rcases h.2 with ⟨h1, h2⟩ | ⟨g, cap, cur, h1, hb, hg, hl, -, hc, -⟩
  · injection h1 with h1 h3 h4
    subst h2 h4
    exact ⟨none, fun p hp => (by cases hp), fun h => absurd h (by omega), Nat.le_refl _⟩
  · injection h1 with h1 h3 h4
    subst h1 h4
    exact ⟨some g, fun p hp => (by cases hp; exact ⟨hb, cur, hg, hc⟩), fun _ => ⟨g, rfl, rfl⟩, hl⟩
theorem LAt.lt {W w : World} {G L R A M cA cM : Nat} {g : Gt} {r : Rg} (h : LAt W w G L R A M cA cM g r) : G < w.heap.size ∧ L < w.heap.size ∧ R < w.heap.size ∧ A < w.heap.size ∧ M < w.heap.size := by
  obtain ⟨ra, hA⟩ := h.ref.times
  obtain ⟨rm, hM⟩ := h.ref.marks
  exact ⟨(Array.getElem?_eq_some_iff.1 h.gate.obj).1, (Array.getElem?_eq_some_iff.1 h.gate.lanes).1, (Array.getElem?_eq_some_iff.1 h.ref.obj).1, (Array.getElem?_eq_some_iff.1 hA).1, (Array.getElem?_eq_some_iff.1 hM).1⟩
theorem LAt.wrote {W w w' : World} {G L R A M cA cM : Nat} {g : Gt} {r : Rg} {ob : Option Nat} (h : LAt W w G L R A M cA cM g r) (k : Keeps (fun b => some b ≠ ob) w w')
    (hob : ∀ p, ob = some p → W.heap.size ≤ p ∧ G < p ∧ L < p ∧ R < p ∧ A < p ∧ M < p) : LAt W w' G L R A M cA cM g r :=
  have key : ∀ b, (b = G ∨ b = L ∨ b = R ∨ b = A ∨ b = M) → some b ≠ ob := fun b hb e => by have := hob b e.symm; omega
  ⟨⟨k.obj (key G (by simp)) h.gate.obj, k.obj (key L (by simp)) h.gate.lanes⟩, h.ref.kept k (key R (by simp)) (key A (by simp)) (key M (by simp)), h.ne, h.new,
    ((h.later.keeps (fun b => some b ≠ ob)).trans k).mono (S' := fun _ => True) (fun b hb _ e => by have := hob b e.symm; omega) |>.later⟩

set_option maxRecDepth 100000 in
set_option maxHeartbeats 8000000 in
theorem steps_walk (ch : Int) (v : Value) (l : List In) (w : World) (hld : Laid w) (hv : IsIns w v l) (hg : ∀ x ∈ l, InGood x) (hl : l.length ≤ maxLen) (hch : (Lit.int .i64 ch).wf = true) :
    Calls Tryd.prog 4 #[.int .i64 ch, v] w fun e w' => e = .returned (.bool true) ∧ Later w w' := by
  have HLD := hid hld; have HCH := hid hch
  obtain ⟨p, cp, rfl, hac, hcm, -, hea⟩ := hv
  have HE := hid hea; have HG := hid hg
  clear hea hg hch hld
  by_cases hc : ch < 1 ∨ 64 < ch
  ·
    go_enter Tryd.func4, Tryd.ntmps4
    go_wp2_with fail
    refine (gate_new_no ch _ hc).mono ?_
    rintro e w1 ⟨rfl, hL1⟩
    have HL1 := hid hL1
    clear hL1
    go_wp2_with fail
    refine (told_errno 4 _ (HLD.out.later HL1.out)).mono ?_
    rintro e w2 ⟨rfl, hL2⟩
    have HL2 := hid hL2
    clear hL2
    by_cases h1 : ch < 1
    · go_wp2_with fail
      go_ret
      exact ⟨rfl, Later.trans _ _ _ HL1.out HL2.out⟩
    · have h2 : 64 < ch := by omega
      go_wp2_with fail
      go_ret
      exact ⟨rfl, Later.trans _ _ _ HL1.out HL2.out⟩
  · obtain ⟨c, rfl⟩ : ∃ c : Nat, ch = c := ⟨ch.toNat, by omega⟩
    have hc1 : 1 ≤ c := by omega
    have hc2 : c ≤ 64 := by omega
    clear hc
    go_enter Tryd.func4, Tryd.ntmps4
    go_wp2_with fail
    refine (gate_new c _ hc1 hc2).mono ?_
    rintro e w1 ⟨G, L, rfl, hG, hL, hgt, hl1⟩
    have hGL : G ≠ L := by
      rintro rfl
      have a := hgt.obj
      rw [hgt.lanes] at a
      simp at a
    have HGT := hid hgt; have HL1 := hid hl1
    clear hgt hl1
    go_wp2_with fail
    refine (told_nil _).mono ?_
    rintro e w2 ⟨rfl, hL2⟩
    have HL2 := hid hL2
    clear hL2
    go_wp2_with fail
    refine (ref_gate_new c _ hc1 hc2).mono ?_
    rintro e w3 ⟨R, A, M, cA, cM, rfl, hR, hRA, hRM, hAM, hr, hl3⟩
    have HR := hid hr; have HL3 := hid hl3
    clear hr hl3
    go_wp2_with fail
    have hK : LAt w w3 G L R A M cA cM ⟨List.replicate c (-1, false), -1, 0⟩ ⟨List.replicate c (-1), List.replicate c 0, -1⟩ := by
      have hs1 := HL1.out.size; have hs2 := HL2.out.size; have hs3 := HL3.out.size
      have hg1 : G < w1.heap.size := (Array.getElem?_eq_some_iff.1 HGT.out.obj).1
      have hg2 : L < w1.heap.size := (Array.getElem?_eq_some_iff.1 HGT.out.lanes).1
      exact ⟨(HGT.out.later HL2.out).later HL3.out, HR.out, by omega, by omega, Later.trans _ _ _ HL1.out (Later.trans _ _ _ HL2.out HL3.out)⟩
    have HK := hid hK
    have HTW := hid (Twin.start c)
    have HOK : Hid (GtOk ⟨List.replicate c (-1, false), -1, 0⟩) := hid ⟨by simpa using hc1, by simpa using hc2, fun x hx => by rw [List.eq_of_mem_replicate hx]; exact ⟨by simp, by simp⟩⟩
    clear hK HGT HL1 HL2 HL3 HR hG hL hGL hR hRA hRM hAM
    obtain ⟨R4, hR4⟩ : ∃ RR_ : (Nat → Value) → World → Prop, RR_ = (fun us wr => ∃ (k : Nat) (g : Gt) (r : Rg), k ≤ l.length ∧ us 9 = .int .i64 k ∧ LAt w wr G L R A M cA cM g r ∧ Twin g r ∧ GtOk g) := ⟨_, rfl⟩
    obtain ⟨mu4, hmu4⟩ : ∃ mu : (Nat → Value) → World → Nat, mu = (fun us _ => l.length - (intOf (us 9)).toNat) := ⟨_, rfl⟩
    have HR4 := hid hR4; have Hmu4 := hid hmu4; clear hR4 hmu4
    refine wp_loop_frame' [false, false, false, false, true, false, false, false, false, true, true, true, true, true, true, true, true, true, true, true, true, true, true, false, false, false, false, false, false, false, false, false, false, false, false, false, false, false, false, false, false, false, false, false, false, false, false, false, false, false, true, true, true, true, true, true, true, true, true, true, true, true, true, true, true, true, true, true, true, true, true, true, true, true, true, true, true, true, true, true, true, true, true, true, true, true, true, true, true, true, true, true, true, true, true, true, true, true, true, true, true, true, true, true, true, true, true, true, true, true, true, true, true, true, true, true, true, true, true, true, true, true, true, true, true, true, true, true, true, true, true, true, true, true, true, true, true, true, true, true, true, true, true, true, true, true, true, true, true, true, true, true, true, true, true, true, true, true, true, true, true, true, true, true, true, true, true, true, true, true, true, true, true, true, true, true, true, true, true, true, true, true, true, true, true, true, true, true, true, true, true, true, true, true, true, true, true, true, true, true, true, true, true, true, true, true, true, true] R4 _ mu4 HR4.out ?_ ?_
    · exact ⟨0, _, _, by omega, rfl, HK.out, HTW.out, HOK.out⟩
    ·
      clear HK HTW HOK
      intro us4 wr hrel
      obtain ⟨k, g, r, hk, h9, hK, hT, hOK⟩ := hrel
      simp only [frameOf, Nat.reduceAdd, h9]
      have Hh9 := hid h9; clear h9
      have HK := hid hK; have HT := hid hT; have HOK := hid hOK
      clear hK hT hOK
      unfold maxLen at hl
      by_cases hlt : k < l.length
      · obtain ⟨b, o, rfl, -, hin⟩ := HE.out k hlt
        have hgd := HG.out _ (List.getElem_mem hlt)
        generalize l[k] = x at *
        obtain ⟨xc, e⟩ := x
        obtain ⟨hw1, hw2⟩ := hgd
        have HW := hid hw2
        obtain ⟨p0, p1, p2, ⟨vv, p3, hvv⟩, p4, p5⟩ := hin
        replace p0 := HK.out.later.cell p0
        replace p1 := HK.out.later.cell p1
        replace p2 := HK.out.later.cell p2
        replace p3 := HK.out.later.cell p3
        replace p4 := HK.out.later.cell p4
        replace p5 := HK.out.later.cell p5
        have HV := hid hvv
        obtain ⟨va, vc, rfl, -⟩ := hvv
        simp only at hw1 p0 p1 p2 p3 p4 p5
        clear hw2
        have HOP : Hid (rOpen r xc = openG g xc) := hid (HT.out.open_ xc)
        go_wp2_with fail
        have hIO := obj_new wr (.cells #[.int .i64 xc, .int .i64 e.kind, .int .i64 e.row.time, .slice va e.row.vals.length vc, .int .i64 e.time, .int .i64 e.mark] 63)
        refine (gate_open G L g xc _ (HK.out.gate.later (Later.alloc _ _)) hw1 HOK.out.most).mono ?_
        rintro e1 w1 ⟨rfl, hL1⟩
        have hI1 := hL1.obj hIO
        have i0 := cell_obj (i := 0) hI1 rfl
        have hLw1 := Later.of_alloc hL1
        have HI1 := hid hI1; have HLw1 := hid hLw1
        clear hIO hI1 hL1 hLw1
        go_wp2_with fail
        refine (ref_gate_open R A M cA cM r xc _ (HK.out.ref.later HLw1.out) (by rw [HT.out.ms, List.length_map]; exact HOK.out.most)).mono ?_
        rintro e2 w2 ⟨rfl, hL2⟩
        rw [HOP.out]
        have hI2 := hL2.obj HI1.out
        clear i0
        have i0 := cell_obj (i := 0) hI2 rfl
        have i1 := cell_obj (i := 1) hI2 rfl
        have i2 := cell_obj (i := 2) hI2 rfl
        have i3 := cell_obj (i := 3) hI2 rfl
        have i4 := cell_obj (i := 4) hI2 rfl
        have i5 := cell_obj (i := 5) hI2 rfl
        have HI2 := hid hI2; have HLw2 := hid (Later.trans _ _ _ HLw1.out hL2)
        have hs2 : wr.heap.size < w2.heap.size := (Array.getElem?_eq_some_iff.1 hI2).1
        clear hI2 hL2 HI1 HLw1
        go_wp2_with fail
        refine (copy_row e.row.time e.row.vals _ _ (((HV.out.later HK.out.later).later HLw2.out).later (Later.alloc _ _)) (by have := HW.out.2.1.2.2; unfold reachBytes at this; omega)).mono ?_
        rintro e3 w3 ⟨v3, rfl, hO3, hL3⟩
        obtain ⟨a3, c3, rfl⟩ := ownsRow_slice hO3
        have hE3 := hL3.obj (obj_new w2 _)
        have hI3 := (Later.of_alloc hL3).obj HI2.out
        have z1 := free_obj (i := 1) hE3
        have z2 := free_obj (i := 2) hE3
        have d1 := cell_obj (i := 1) hE3 rfl
        have d2 := cell_obj (i := 2) hE3 rfl
        have HE3 := hid hE3; have HI3 := hid hI3; have HO3 := hid hO3; have HLw3 := hid (Later.trans _ _ _ HLw2.out (Later.of_alloc hL3))
        clear hE3 hI3 hO3 hL3 i0 i1 i2 i3 i4 i5
        go_upto_region 16 with (fail)
        obtain ⟨w4, hw4⟩ : ∃ w4, w4 = (w3.setCell ⟨w2.heap.size, 1, none⟩ (.int .i64 e.row.time)).setCell ⟨w2.heap.size, 2, none⟩ (.slice a3 e.row.vals.length c3) := ⟨_, rfl⟩
        rw [← hw4]
        obtain ⟨E, hE⟩ : ∃ E, E = w2.heap.size := ⟨_, rfl⟩
        obtain ⟨I, hI⟩ : ∃ I, I = wr.heap.size := ⟨_, rfl⟩
        have HE4 : Hid (w4.heap[E]? = some (.cells #[.int .i64 e.kind, .int .i64 e.row.time, .slice a3 e.row.vals.length c3, .int .i64 e.time, .int .i64 e.mark] 61 (0, 0))) := by
          have h := obj_setCell (i := 2) (obj_setCell (i := 1) HE3.out (.int .i64 e.row.time)) (.slice a3 e.row.vals.length c3)
          rw [hw4, hE]; exact h
        have HI4 : Hid (w4.heap[I]? = some (.cells #[.int .i64 xc, .int .i64 e.kind, .int .i64 e.row.time, .slice va e.row.vals.length vc, .int .i64 e.time, .int .i64 e.mark] 63 (0, 0))) := by
          rw [hw4, hI, Below.heap_setCell _ ⟨_, _, none⟩ _ _ (by simp only; omega), Below.heap_setCell _ ⟨_, _, none⟩ _ _ (by simp only; omega)]
          exact HI3.out
        have HLw4 : Hid (Later wr w4) := by
          rw [hw4]; exact (HLw3.out.new (p := ⟨_, _, none⟩) (by simp only; omega) _).new (p := ⟨_, _, none⟩) (by simp only; omega) _
        have HO4 : Hid (w4.ownsRow (E + 1) 40 3 (.slice a3 e.row.vals.length c3) e.row.vals.length (valCells e.row.vals)) := by
          rw [hw4, hE]
          have h := HO3.out
          rw [show (w2.alloc _).heap.size = w2.heap.size + 1 by simp] at h
          exact ownsRow_setCell_below (ownsRow_setCell_below h (a := ⟨_, _, none⟩) (by simp only; omega) _) (a := ⟨_, _, none⟩) (by simp only; omega) _
        have hEI : wr.heap.size < E := by omega
        have hIE : I = wr.heap.size := hI
        rw [← hE, ← hI]
        have HEI := hid hEI; have HIE := hid hIE
        clear hw4 hE hI HE3 HI3 HO3 HLw3 z1 z2 d1 d2 HI2 HLw2 hs2 hEI hIE
        have i0 := cell_obj (i := 0) HI4.out rfl
        have d0 := cell_obj (i := 0) HE4.out rfl
        have d1 := cell_obj (i := 1) HE4.out rfl
        have d2 := cell_obj (i := 2) HE4.out rfl
        have d3 := cell_obj (i := 3) HE4.out rfl
        have d4 := cell_obj (i := 4) HE4.out rfl
        obtain ⟨g', cd, es, r', htg, htr, hTW', hOK'⟩ : ∃ g' cd es r', takeG g xc e = (g', cd, es) ∧ rTake r xc e = (r', cd, es) ∧ Twin g' r' ∧ GtOk g' := by
          have h := HT.out.take HOK.out xc e
          exact ⟨(takeG g xc e).1, (takeG g xc e).2.1, (takeG g xc e).2.2, (rTake r xc e).1, rfl, by rw [h.1], h.2.1, h.2.2⟩
        have HTG := hid htg; have HTR := hid htr; have HTW' := hid hTW'; have HOK' := hid hOK'
        have HML : Hid (r.ts.length = r.ms.length ∧ r.ms.length ≤ 64) := hid (by rw [HT.out.ms, HT.out.ts, List.length_map, List.length_map]; exact ⟨rfl, HOK.out.most⟩)
        have HVL : Hid (e.row.vals.length * 32 ≤ 140737488355328) := hid (by have := HW.out.2.1.2.2; unfold reachBytes at this; omega)
        clear htg htr hTW' hOK' HT
        go_wp2_with fail
        refine (gate_take G L g xc e _ _ (HK.out.gate.later HLw4.out) HK.out.ne.2.1 HOK.out hw1 ((owned_vals HO4.out).vals_mono fun _ _ => trivial) HVL.out).mono ?_
        intro e4 w5 hT5
        rw [HTG.out] at hT5
        obtain ⟨sv, rfl, hg5, hel5, hk5⟩ := hT5
        obtain ⟨ga, gc, hsv, hla, hlm, -, hel5'⟩ := hel5.elems
        have HEM : Hid (es.length ≤ 9223372036854775807) := hid (by simp only at hla; unfold maxLen at hlm; omega)
        clear hla hlm
        simp only at hsv hel5'
        subst hsv
        have HK5 := hid ((HK.out.more HLw4.out).took hg5 hk5)
        have hI5 : w5.heap[I]? = _ := hk5.obj ⟨by have := HK.out.lt; have := HIE.out; omega, by have := HK.out.lt; have := HIE.out; omega⟩ HI4.out
        have HE5 := hid (hk5.obj (b := E) ⟨by have := HK.out.lt; have := HEI.out; omega, by have := HK.out.lt; have := HEI.out; omega⟩ HE4.out)
        have HEL5 := hid hel5'
        have HKP5 := hid hk5
        have HS4 : Hid (w4.heap.size ≤ w5.heap.size) := hid hk5.size
        replace i0 := cell_obj (i := 0) hI5 rfl
        have i1 := cell_obj (i := 1) hI5 rfl
        have i2 := cell_obj (i := 2) hI5 rfl
        have i3 := cell_obj (i := 3) hI5 rfl
        have i4 := cell_obj (i := 4) hI5 rfl
        have i5 := cell_obj (i := 5) hI5 rfl
        clear hI5 hg5 hel5 hel5' hk5 d0 d1 d2 d3 d4 HTG
        go_wp2_with fail
        refine (ref_take R A M cA cM r xc e _ _ HK5.out.ref HK5.out.ne.1 HML.out.1 HML.out.2 (HV.out.later HK5.out.later) HVL.out).mono ?_
        intro e5 w6 hT6
        rw [HTR.out] at hT6
        obtain ⟨sv, rfl, hr6, hel6, hk6⟩ := hT6
        obtain ⟨gb, gd, hsv, -, -, -, hel6'⟩ := hel6.elems
        simp only at hsv hel6'
        subst hsv
        have HK6 := hid (HK5.out.went hr6 hk6)
        obtain ⟨ob, hob1, hob2, hob3⟩ := own_spot HO4.out
        have hW6 : wr.heap.size ≤ w4.heap.size := HLw4.out.size
        have HRA : Hid (G < wr.heap.size ∧ L < wr.heap.size ∧ R < wr.heap.size ∧ A < wr.heap.size ∧ M < wr.heap.size ∧ w.heap.size ≤ wr.heap.size) := hid ⟨HK.out.lt.1, HK.out.lt.2.1, HK.out.lt.2.2.1, HK.out.lt.2.2.2.1, HK.out.lt.2.2.2.2, HK.out.later.size⟩
        have HOB : Hid (∀ p, ob = some p → E < p ∧ p < w4.heap.size ∧ ∃ cur : Array Value, w6.heap[p]? = some (.cells cur 40 (0, 0)) ∧ cur.size = c3 * 3) := hid fun p hp => by
          obtain ⟨h1, cur, h2, h3⟩ := hob1 p hp
          have hr := HRA.out
          have he := HEI.out
          exact ⟨h1, (Array.getElem?_eq_some_iff.1 h2).1, cur, hk6.obj (b := p) ⟨by omega, by omega, by omega⟩ (HKP5.out.obj (b := p) ⟨by omega, by omega⟩ h2), h3⟩
        have HOB2 := hid hob2
        have HC3 := hid hob3
        have HE6 : Hid (w6.heap[E]? = _) := hid (hk6.obj (b := E) (by have hr := HRA.out; have he := HEI.out; exact ⟨by omega, by omega, by omega⟩) HE5.out)
        have HEA := hid (elems_kept HEL5.out hk6 (fun b hb => by have hr := HRA.out; have he := HEI.out; exact ⟨by omega, by omega, by omega⟩))
        have HEB := hid hel6'
        have HS5 : Hid (w4.heap.size ≤ w5.heap.size) := HS4
        clear hr6 hel6 hel6' hk6 hob1 hob2 hob3 hW6 HE5 HEL5 HKP5 HK5 HTR HO4 HE4 HI4 i0 i1 i2 i3 i4 i5 p0 p1 p2 p3 p4 p5 HS4
        go_wp2_with fail
        obtain ⟨R5, hR5⟩ : ∃ RR_ : (Nat → Value) → World → Prop, RR_ = (fun us wx => ∃ n : Nat, n ≤ e.row.vals.length ∧ us 18 = .int .i64 n ∧ Keeps (fun b => some b ≠ ob) w6 wx ∧ ∀ p, ob = some p → ∃ cur : Array Value, wx.heap[p]? = some (.cells cur 40 (0, 0)) ∧ cur.size = c3 * 3) := ⟨_, rfl⟩
        obtain ⟨mu5, hmu5⟩ : ∃ mu : (Nat → Value) → World → Nat, mu = (fun us _ => e.row.vals.length - (intOf (us 18)).toNat) := ⟨_, rfl⟩
        have HR5 := hid hR5; have Hmu5 := hid hmu5; clear hR5 hmu5
        refine wp_loop_frame' [false, false, false, false, false, false, false, false, false, false, false, false, false, false, false, false, false, false, true, false, false, false, false, false, false, false, false, false, false, false, false, false, false, false, false, false, false, false, false, false, false, false, false, false, false, false, false, false, false, false, false, false, false, false, false, false, false, false, false, false, false, false, false, false, false, false, false, false, false, false, false, false, false, false, false, false, false, false, false, false, false, false, false, false, false, false, false, false, false, false, false, false, true, true, true, true, true, true, true, true, true, true, true, true, true, true] R5 _ mu5 HR5.out ?_ ?_
        · exact ⟨0, by omega, rfl, Keeps.refl _ _, fun p hp => (HOB.out p hp).2.2⟩
        intro us5 wx hrel
        obtain ⟨n, hn, h18, hkx, hcx⟩ := hrel
        simp only [frameOf, Nat.reduceAdd, h18]
        have Hh18 := hid h18; clear h18
        have hEx := hkx.obj (b := E) (fun he => by have := HOB.out E he.symm; omega) HE6.out
        have d2 := cell_obj (i := 2) hEx rfl
        have HKX := hid hkx
        have HL2 := HVL.out
        clear hkx hEx
        by_cases hlt2 : n < e.row.vals.length
        · obtain ⟨p, hp, ha3⟩ := HOB2.out (by omega)
          subst ha3
          obtain ⟨cur, hcur, hcs⟩ := hcx p hp
          have hc3 := HC3.out
          have z0 := free_obj (i := n * 3) hcur
          have z1 := free_obj (i := n * 3 + 1) hcur
          have z2 := free_obj (i := n * 3 + 2) hcur
          obtain ⟨x0, q0⟩ : ∃ x, wx.cell? ⟨p, n * 3, none⟩ = some x := ⟨_, cell_obj (v := cur[n * 3]'(by omega)) hcur (by simp)⟩
          obtain ⟨x1, q1⟩ : ∃ x, wx.cell? ⟨p, n * 3 + 1, none⟩ = some x := ⟨_, cell_obj (v := cur[n * 3 + 1]'(by omega)) hcur (by simp)⟩
          obtain ⟨x2, q2⟩ : ∃ x, wx.cell? ⟨p, n * 3 + 2, none⟩ = some x := ⟨_, cell_obj (v := cur[n * 3 + 2]'(by omega)) hcur (by simp)⟩
          have HCU := hid hcur
          have HCS := hid hcs
          clear hcur hcs hcx
          go_wp2_with fail
          refine Round.mk' HR5.out Hmu5.out rfl ?_ ?_
          · refine ⟨n + 1, by omega, by go_num, ((HKX.out.setCell (p := ⟨p, n * 3, none⟩) (.inl (fun h => h hp.symm)) _).setCell (p := ⟨p, n * 3 + 1, none⟩) (.inl (fun h => h hp.symm)) _).setCell (p := ⟨p, n * 3 + 2, none⟩) (.inl (fun h => h hp.symm)) _, fun p' hp' => ?_⟩
            obtain rfl : p' = p := Option.some.inj (hp'.symm.trans hp)
            exact ⟨_, obj_setCell (i := n * 3 + 2) (obj_setCell (i := n * 3 + 1) (obj_setCell (i := n * 3) HCU.out _) _) _, by simpa using HCS.out⟩
          · rw [Hh18.out]; simp [intOf, slots]; omega
        · clear hcx
          obtain rfl : n = e.row.vals.length := by omega
          have hK7 := HK6.out.wrote HKX.out (fun p hp => by have h := HOB.out p hp; have hr := HRA.out; have he := HEI.out; exact ⟨by omega, by omega, by omega, by omega, by omega, by omega⟩)
          have HEA7 := hid (elems_kept HEA.out HKX.out (fun b hb he => by have := HOB.out b he.symm; omega))
          have HEB7 := hid (elems_kept HEB.out HKX.out (fun b hb he => by have := HOB.out b he.symm; have := HS5.out; omega))
          have HK7 := hid hK7
          clear hK7 HKX HEA HEB HE6 HOB HOB2 HC3 HK6
          go_wp2_with fail
          clear d2
          refine (told_any cd _ (HLD.out.later HK7.out.later)).mono ?_
          rintro e8 w8 ⟨rfl, hL8⟩
          have HK8 := hid (HK7.out.more hL8)
          have HEA8 := hid (elems_kept (S' := All) HEA7.out (hL8.keeps _) (fun b hb => trivial))
          have HEB8 := hid (elems_kept (S' := All) HEB7.out (hL8.keeps _) (fun b hb => trivial))
          clear hL8 HEA7 HEB7 HK7
          go_wp2_with fail
          refine (gate_time G L g' _ HK8.out.gate).mono ?_
          rintro e9 w9 ⟨rfl, rfl⟩
          have rt := cell_obj (i := 2) HK8.out.ref.obj rfl
          rw [show (⟨r'.ts, r'.ms, r'.told⟩ : Rg).told = g'.time from HTW'.out.told] at rt
          go_wp2_with fail
          have hem := HEM.out
          obtain ⟨R6, hR6⟩ : ∃ RR_ : (Nat → Value) → World → Prop, RR_ = (fun us wx => ∃ m : Nat, m ≤ es.length ∧ us 21 = .int .i64 m ∧ Later w9 wx) := ⟨_, rfl⟩
          obtain ⟨mu6, hmu6⟩ : ∃ mu : (Nat → Value) → World → Nat, mu = (fun us _ => es.length - (intOf (us 21)).toNat) := ⟨_, rfl⟩
          have HR6 := hid hR6; have Hmu6 := hid hmu6; clear hR6 hmu6
          refine wp_loop_frame' [false, false, false, false, true, false, false, false, false, false, false, false, false, false, false, false, false, false, false, false, false, true, true, false, false, false, false, false, false, false, false, false, false, false, false, false, false, false, false, false, false, false, false, false, false, false, false, false, false, false, false, false, false, false, false, false, false, false, false, false, false, false, false, false, false, false, false, false, false, false, false, false, false, false, false, false, false, false, false, false, false, false, false, false, false, false, false, false, false, false, false, false, false, false, false, false, false, false, false, false, false, false, false, false, false, false, false, false, false, false, false, false, false, false, false, false, false, false, false, false, false, false, false, false, false, false, false, false, false, false, false, false, false, true, true, true, true, true, true, true, true, true, true, true, true, true, true, true, true, true, true, true, true, true, true, true, true, true, true, true, true, true, true, true, true, true, true, true, true, true, true, true, true, true, true, true, true, true, true, true, true, true, true, true, true, true, true, true, true, true, true, true, true, true, true, true, true, true, true, true, true, true, true, true, true, true, true, true] R6 _ mu6 HR6.out ?_ ?_
          · exact ⟨0, by omega, rfl, Later.refl _⟩
          intro us6 wx hrel
          obtain ⟨m, hm, h21, hLx⟩ := hrel
          simp only [frameOf, Nat.reduceAdd, h21]
          have Hh21 := hid h21; clear h21
          have HLX := hid hLx
          clear hLx rt
          by_cases hlt3 : m < es.length
          · obtain ⟨b1, o1, rfl, -, r0, r1, ⟨u1, r2, hu1⟩, r3, r4⟩ := HEA8.out m hlt3
            obtain ⟨b2, o2, rfl, -, s0, s1, ⟨u2, s2, hu2⟩, s3, s4⟩ := HEB8.out m hlt3
            generalize es[m] = x at *
            have HU1 := hid ((hu1.vals_mono (S' := All) fun _ _ => trivial).later HLX.out)
            have HU2 := hid ((hu2.vals_mono (S' := All) fun _ _ => trivial).later HLX.out)
            replace r0 := HLX.out.cell r0
            replace r1 := HLX.out.cell r1
            replace r2 := HLX.out.cell r2
            replace r3 := HLX.out.cell r3
            replace r4 := HLX.out.cell r4
            replace s0 := HLX.out.cell s0
            replace s1 := HLX.out.cell s1
            replace s2 := HLX.out.cell s2
            replace s3 := HLX.out.cell s3
            replace s4 := HLX.out.cell s4
            have hnn : (0 : Int) ≤ m := by omega
            clear hu1 hu2 HEA8 HEB8
            go_wp2_with fail
            refine wp_region_lex (by kernel_rfl) (by kernel_rfl) Later Later.refl Later.trans (kinds [(12, fun v _ => v = .bool true)]) (kinds_still (by simp +contextual)) ?_
            simp only [numbered, Nat.reduceAdd]
            refine LexS.out ?_
            iterate 12
              first
              | (refine LexS.skip rfl ?_; simp only [Act.put, List.setIfInBounds_toArray, List.set])
              | (refine LexS.one' rfl rfl ?_
                 apply Exists.intro
                 refine ⟨fun w hR hF => ?_, ?_⟩
                 · have hP := hR
                   repeat (first | replace hP := Later.of_drew hP | replace hP := Later.of_drewN hP | replace hP := Later.of_alloc hP)
                   have hcs := hR.cells
                   have zr2 := hP.cell r2
                   have zs2 := hP.cell s2
                   clear hR hF hP
                   go_simp
                   first | done | rfl
                 simp only [Act.put, List.setIfInBounds_toArray, List.set])
            refine LexS.anyEq rfl rfl (fun w hR hF => ?_) ?_
            · have hP := hR
              repeat (first | replace hP := Later.of_drew hP | replace hP := Later.of_drewN hP | replace hP := Later.of_alloc hP)
              have hcs := hR.cells
              clear hF hR
              unfold Runs
              go_simp
              unfold Yield
              refine (same_vals x.row.vals x.row.vals _ _ _ (HU1.out.later hP) (HU2.out.later hP)).mono ?_
              rintro e w' ⟨rfl, hL⟩
              exact ⟨_, rfl, hL, congrArg Value.bool (sameV_refl _)⟩
            simp only [Act.put, List.setIfInBounds_toArray, List.set]
            iterate 1
              first
              | (refine LexS.skip rfl ?_; simp only [Act.put, List.setIfInBounds_toArray, List.set])
              | (refine LexS.one' rfl rfl ?_
                 apply Exists.intro
                 refine ⟨fun w hR hF => ?_, ?_⟩
                 · have hP := hR
                   repeat (first | replace hP := Later.of_drew hP | replace hP := Later.of_drewN hP | replace hP := Later.of_alloc hP)
                   have hcs := hR.cells
                   clear hR hF hP
                   go_simp
                   first | done | rfl
                 simp only [Act.put, List.setIfInBounds_toArray, List.set])
            refine LexS.nil ?_
            intro w10 hR10 hF9
            clear hF9
            repeat (first | replace hR10 := Later.of_drew hR10 | replace hR10 := Later.of_drewN hR10 | replace hR10 := Later.of_alloc hR10)
            replace r0 := hR10.cell r0
            replace r1 := hR10.cell r1
            replace r3 := hR10.cell r3
            replace r4 := hR10.cell r4
            replace s0 := hR10.cell s0
            replace s1 := hR10.cell s1
            replace s3 := hR10.cell s3
            replace s4 := hR10.cell s4
            have HR10 := hid hR10
            clear hR10 r2 s2
            go_wp2_with fail
            refine wp_region_lex (by kernel_rfl) (by kernel_rfl) Later Later.refl Later.trans (fun _ => none) (fun _ _ _ _ _ h => by cases h) ?_
            simp only [numbered, Nat.reduceAdd]
            refine LexS.out ?_
            iterate 56
              first
              | (refine LexS.skip rfl ?_; simp only [Act.put, List.setIfInBounds_toArray, List.set])
              | (refine LexS.one' rfl rfl ?_
                 apply Exists.intro
                 refine ⟨fun w hR hF => ?_, ?_⟩
                 · have hP := hR
                   repeat (first | replace hP := Later.of_drew hP | replace hP := Later.of_drewN hP | replace hP := Later.of_alloc hP)
                   have hcs := hR.cells
                   have zr0 := hP.cell r0
                   have zr1 := hP.cell r1
                   have zr3 := hP.cell r3
                   have zr4 := hP.cell r4
                   have zs0 := hP.cell s0
                   have zs1 := hP.cell s1
                   have zs3 := hP.cell s3
                   have zs4 := hP.cell s4
                   clear hR hF hP
                   go_simp
                   first | done | rfl
                 simp only [Act.put, List.setIfInBounds_toArray, List.set])
            refine LexS.nil ?_
            intro w11 hR11 hF9
            clear hF9
            repeat (first | replace hR11 := Later.of_drew hR11 | replace hR11 := Later.of_drewN hR11 | replace hR11 := Later.of_alloc hR11)
            have HR11 := hid hR11
            clear hR11 r0 r1 r3 r4 s0 s1 s3 s4
            go_wp2_with fail
            refine Round.mk' HR6.out Hmu6.out rfl ?_ ?_
            · exact ⟨m + 1, by omega, by go_num, Later.trans _ _ _ HLX.out (Later.trans _ _ _ HR10.out HR11.out)⟩
            · rw [Hh21.out]; simp [intOf, slots]; omega
          · go_wp2_with fail
            refine Round.mk' HR4.out Hmu4.out rfl ?_ ?_
            · exact ⟨k + 1, g', r', by omega, by go_num, HK8.out.more HLX.out, HTW'.out, HOK'.out⟩
            · rw [Hh9.out]; simp [intOf, slots]; omega
      · obtain rfl : k = l.length := by omega
        go_wp2_with fail
        go_ret
        exact ⟨rfl, HK.out.later⟩
end Go.Proofs.YthfgjmdmcoogpaaDoor
