/-
  PROVED HERE: streamwrightlaw9.GateKeeps returns true, for every number and every script. No conditions.
-/
import Derived.Test.YtjpdmlopbflggaaKeepsPlain
import Derived.Test.YtjpdmlopbflggaaFrame
import Derived.OwnWalk
namespace Go.Proofs.Ytjpdmlopbflggaa
open Go.RowKit

theorem infoI64 : (Try.prog.info? 2).map (fun i => (i.zero, i.size, i.bytes)) = some (some (.int .i64 0), 1, 8) := by kernel_rfl
theorem infoBool : (Try.prog.info? 4).map (fun i => (i.zero, i.size, i.bytes)) = some (some (.bool false), 1, 1) := by kernel_rfl

/-- the law's memory: the gate, its own lists. -/
structure KAt (W w : World) (G L A M : Nat) (g : Gt) (sd : List Int) (mk : List Bool) : Prop where
  gate : GateAt w G L g
  said : w.heap[A]? = some (.cells (intCells sd) 2 (0, 0))
  marked : w.heap[M]? = some (.cells (boolCells mk) 4 (0, 0))
  ne : G ≠ L ∧ A ≠ G ∧ A ≠ L ∧ M ≠ G ∧ M ≠ L ∧ A ≠ M
  new : W.heap.size ≤ G ∧ W.heap.size ≤ L ∧ W.heap.size ≤ A ∧ W.heap.size ≤ M
  later : Later W w
section
variable {W w w' : World} {G L A M : Nat} {g g' : Gt} {sd : List Int} {mk : List Bool}
theorem KAt.more (h : KAt W w G L A M g sd mk) (k : Later w w') : KAt W w' G L A M g sd mk :=
  ⟨h.gate.later k, k.obj h.said, k.obj h.marked, h.ne, h.new, Later.trans _ _ _ h.later k⟩
theorem KAt.taken (h : KAt W w G L A M g sd mk) (hg : GateAt w' G L g') (k : Keeps (fun b => b ≠ G ∧ b ≠ L) w w') : KAt W w' G L A M g' sd mk :=
  have hn := h.ne
  ⟨hg, k.obj ⟨by omega, by omega⟩ h.said, k.obj ⟨by omega, by omega⟩ h.marked, h.ne, h.new,
    ((h.later.keeps (fun b => b ≠ G ∧ b ≠ L)).trans k).mono (S' := fun _ => True) (fun b hb _ => (have := h.new; ⟨by omega, by omega⟩)) |>.later⟩
theorem KAt.set_said (h : KAt W w G L A M g sd mk) (n : Nat) (x : Int) : KAt W (w.setCell ⟨A, n, none⟩ (.int .i64 x)) G L A M g (sd.set n x) mk := by
  have hn := h.ne
  have hw := h.new
  refine ⟨⟨?_, ?_⟩, ?_, ?_, h.ne, h.new, h.later.new (p := ⟨A, n, none⟩) (by simp only; omega) _⟩
  · rw [Below.heap_setCell _ ⟨A, n, none⟩ _ _ (by simp only; omega)]; exact h.gate.obj
  · rw [Below.heap_setCell _ ⟨A, n, none⟩ _ _ (by simp only; omega)]; exact h.gate.lanes
  · rw [← intCells_set]; exact obj_setCell (i := n) h.said _
  · rw [Below.heap_setCell _ ⟨A, n, none⟩ _ _ (by simp only; omega)]; exact h.marked
theorem KAt.set_marked (h : KAt W w G L A M g sd mk) (n : Nat) (x : Bool) : KAt W (w.setCell ⟨M, n, none⟩ (.bool x)) G L A M g sd (mk.set n x) := by
  have hn := h.ne
  have hw := h.new
  refine ⟨⟨?_, ?_⟩, ?_, ?_, h.ne, h.new, h.later.new (p := ⟨M, n, none⟩) (by simp only; omega) _⟩
  · rw [Below.heap_setCell _ ⟨M, n, none⟩ _ _ (by simp only; omega)]; exact h.gate.obj
  · rw [Below.heap_setCell _ ⟨M, n, none⟩ _ _ (by simp only; omega)]; exact h.gate.lanes
  · rw [Below.heap_setCell _ ⟨M, n, none⟩ _ _ (by simp only; omega)]; exact h.said
  · rw [← boolCells_set]; exact obj_setCell (i := n) h.marked _
theorem KAt.fresh (h : KAt W w G L A M g sd mk) (k : Later w w') {M' : Nat} (hM : w.heap.size ≤ M') {mk' : List Bool} (hm : w'.heap[M']? = some (.cells (boolCells mk') 4 (0, 0))) : KAt W w' G L A M' g sd mk' :=
  have hn := h.ne
  have hw := h.new
  have a1 : G < w.heap.size := (Array.getElem?_eq_some_iff.1 h.gate.obj).1
  have a2 : L < w.heap.size := (Array.getElem?_eq_some_iff.1 h.gate.lanes).1
  have a3 : A < w.heap.size := (Array.getElem?_eq_some_iff.1 h.said).1
  have a4 := h.later.size
  ⟨h.gate.later k, k.obj h.said, hm, by omega, by omega, Later.trans _ _ _ h.later k⟩
end

set_option maxRecDepth 100000 in
set_option maxHeartbeats 8000000 in
theorem keeps_walk (ch : Int) (v : Value) (l : List In) (w : World) (hv : IsIns w v l) (hg : ∀ x ∈ l, InGood x) (hl : l.length ≤ maxLen) (hch : (Lit.int .i64 ch).wf = true) :
    Calls Try.prog 8 #[.int .i64 ch, v] w fun e w' => e = .returned (.bool true) ∧ Later w w' := by
  obtain ⟨ii, hi, hz0, hz1, hz2⟩ := info_parts infoI64
  have HI := hid hi; have HZ0 := hid hz0; have HZ1 := hid hz1; have HZ2 := hid hz2; clear hi hz0 hz1 hz2
  obtain ⟨ib, hi, hz0, hz1, hz2⟩ := info_parts infoBool
  have BI := hid hi; have BZ0 := hid hz0; have BZ1 := hid hz1; have BZ2 := hid hz2; clear hi hz0 hz1 hz2
  obtain ⟨p, cp, rfl, hac, hcm, -, hea⟩ := hv
  have HE := hid hea; have HG := hid hg
  clear hea hg hch
  go_enter Try.func8, Try.ntmps8
  go_upto_region 1 with (fail)
  obtain ⟨R1, hR1⟩ : ∃ R : (Nat → Value) → World → Prop, R = (fun us wx => us 27 = .bool (decide (ch < 1 ∨ 64 < ch)) ∧ wx = w) := ⟨_, rfl⟩
  have HR1 := hid hR1; clear hR1
  refine wp_cut_frame' [false, false, false, false, false, false, false, false, false, false, false, false, false, false, false, false, false, false, false, false, false, false, true, true, true, true, true, true] R1 _ HR1.out ?_ ?_
  · by_cases h1 : ch < 1
    · go_wp2_with fail
      refine Meet.mk' HR1.out rfl ?_
      exact ⟨by simp [slots, h1], rfl⟩
    · by_cases h2 : 64 < ch
      · go_wp2_with fail
        refine Meet.mk' HR1.out rfl ?_
        exact ⟨by simp [slots, h2], rfl⟩
      · go_wp2_with fail
        refine Meet.mk' HR1.out rfl ?_
        exact ⟨by simp [slots, h1, h2], rfl⟩
  intro us wx hrel
  obtain ⟨hu, rfl⟩ := hrel
  simp only [frameOf, Nat.reduceAdd, hu]
  have Hhu := hid hu; clear hu
  go_upto_if 27 with (fail)
  obtain ⟨R2, hR2⟩ : ∃ R : (Nat → Value) → World → Prop, R = (fun us wc => ∃ c : Nat, 1 ≤ c ∧ c ≤ 64 ∧ us 0 = .int .i64 c ∧ wc = wx) := ⟨_, rfl⟩
  have HR2 := hid hR2; clear hR2
  refine wp_cut_frame' [true, false, false, false, false, false, false, false, false, false, false, false, false, false, false, false, false, false, false, false, false, false, true, true, true, true, true, true] R2 _ HR2.out ?_ ?_
  · by_cases h1 : ch < 1 ∨ 64 < ch
    · have hd : decide (ch < 1 ∨ 64 < ch) = true := decide_eq_true h1
      go_wp2_with fail
      refine Meet.mk' HR2.out rfl ?_
      exact ⟨3, by omega, by omega, rfl, rfl⟩
    · have hd : decide (ch < 1 ∨ 64 < ch) = false := decide_eq_false h1
      go_wp2_with fail
      refine Meet.mk' HR2.out rfl ?_
      exact ⟨ch.toNat, by omega, by omega, by rw [Int.toNat_of_nonneg (by omega)]; rfl, rfl⟩
  ·
    intro us2 wc hrel
    obtain ⟨c, hc1, hc2, hu, rfl⟩ := hrel
    simp only [frameOf, Nat.reduceAdd, hu]
    have Hhu := hid hu; clear hu
    have hkl : IntKind.i64.wrap (c : Int) = c := IntWalk.i64_in (c : Int) (by omega)
    go_wp2_with fail
    refine (gate_new c _ hc1 hc2).mono ?_
    rintro e w1 ⟨G, L, rfl, hG, hL, hgt, hl1⟩
    have hGL : G ≠ L := by
      rintro rfl
      have a := hgt.obj
      rw [hgt.lanes] at a
      simp at a
    have HGT := hid hgt; have HL1 := hid hl1
    clear hgt hl1
    go_wp2_with (at_make; go_loud (refine wpList_make_full _ rfl _ _ 68 rfl w1.heap.size 2 ii _ 1 Try.underlying68 HI.out HZ0.out HZ1.out .i64 .i64 c c c ?b1 ?b2 rfl rfl ?b3 ?b4 (Nat.le_refl _) ?_))
    case b1 => first | rfl | exact congrArg _ hkl
    case b2 => first | rfl | exact congrArg _ hkl
    case b3 => rw [HZ2.out]; omega
    case b4 => unfold maxLen; omega
    intro w2 hown hgrow
    have hA := owned_block hown
    rw [intCells_zero _ c (by exact toList_madeCells_one _ _)] at hA
    have hl2 : Later w1 w2 := Keeps.later ((Keeps.of_grown hgrow).mono fun _ _ _ => by simp)
    have HA := hid hA; have HL2 := hid hl2
    clear hown hgrow hA hl2
    go_wp2_with (at_make; go_loud (refine wpList_make_full _ rfl _ _ 69 rfl w2.heap.size 4 ib _ 1 Try.underlying69 BI.out BZ0.out BZ1.out .i64 .i64 c c c ?b1 ?b2 rfl rfl ?b3 ?b4 (Nat.le_refl _) ?_))
    case b1 => first | rfl | exact congrArg _ hkl
    case b2 => first | rfl | exact congrArg _ hkl
    case b3 => rw [BZ2.out]; omega
    case b4 => unfold maxLen; omega
    intro w3 hown hgrow
    have hM := owned_block hown
    rw [boolCells_zero _ c (by exact toList_madeCells_one _ _)] at hM
    have hl3 : Later w2 w3 := Keeps.later ((Keeps.of_grown hgrow).mono fun _ _ _ => by simp)
    have hs1 := HL1.out.size; have hs2 := HL2.out.size; have hs3 := hl3.size
    have hA3 := hl3.obj HA.out
    have hg1 : G < w1.heap.size := (Array.getElem?_eq_some_iff.1 HGT.out.obj).1
    have hg2 : L < w1.heap.size := (Array.getElem?_eq_some_iff.1 HGT.out.lanes).1
    have hg3 : w1.heap.size < w2.heap.size := (Array.getElem?_eq_some_iff.1 HA.out).1
    have hgt3 := (HGT.out.later HL2.out).later hl3
    have hl03 := Later.trans _ _ _ HL1.out (Later.trans _ _ _ HL2.out hl3)
    have hA : ∃ A, A = w1.heap.size := ⟨_, rfl⟩
    obtain ⟨A, hA⟩ := hA
    have hMM : ∃ M, M = w2.heap.size := ⟨_, rfl⟩
    obtain ⟨M, hMM⟩ := hMM
    simp only [← hA, ← hMM] at hM hA3 ⊢
    have hne : G ≠ L ∧ A ≠ G ∧ A ≠ L ∧ M ≠ G ∧ M ≠ L ∧ A ≠ M := by omega
    have hnew : wc.heap.size ≤ G ∧ wc.heap.size ≤ L ∧ wc.heap.size ≤ A ∧ wc.heap.size ≤ M := by omega
    have HM := hid hM; have HA3 := hid hA3; have HGT3 := hid hgt3; have HL3 := hid hl03; have HNE := hid hne; have HNEW := hid hnew
    clear hown hgrow hM hl3 hgt3 hl03 hA3 HA HL2 HL1 HGT hs1 hs2 hs3 hg1 hg2 hg3 hA hMM hGL hnew hne hG hL
    go_wp2_with fail
    obtain ⟨R3, hR3⟩ : ∃ R : (Nat → Value) → World → Prop, R = (fun us wr => ∃ n : Nat, n ≤ c ∧ us 9 = .int .i64 n ∧ GateAt wr G L ⟨List.replicate c (-1, false), -1, 0⟩ ∧ wr.heap[A]? = some (.cells (intCells (List.replicate n (-1) ++ List.replicate (c - n) 0)) 2 (0, 0)) ∧  wr.heap[M]? = some (.cells (boolCells (List.replicate c false)) 4 (0, 0)) ∧ Later wc wr) := ⟨_, rfl⟩
    obtain ⟨mu3, hmu3⟩ : ∃ mu : (Nat → Value) → World → Nat, mu = (fun us _ => c - (intOf (us 9)).toNat) := ⟨_, rfl⟩
    have HR3 := hid hR3; have Hmu3 := hid hmu3; clear hR3 hmu3
    refine wp_loop_frame' [false, false, false, false, false, false, false, false, false, true, false, false, false, false, false, false, false, false, false, false, false, false, false, false, false, false, false, false, false, false, false, false, false, false, false, false, false, false, false, false, false, false, false, true, true, true, true, true, true, true, true] R3 _ mu3 HR3.out ?_ ?_
    · exact ⟨0, by omega, rfl, HGT3.out, HA3.out, HM.out, HL3.out⟩
    ·
      intro us3 wr hrel
      obtain ⟨n, hn, h9, hgt, hA, hM, hL⟩ := hrel
      simp only [frameOf, Nat.reduceAdd, h9]
      have Hh9 := hid h9; clear h9
      have HGT := hid hgt; have HA := hid hA; have HM := hid hM; have HL := hid hL
      clear hgt hM hL
      have hnn : (0 : Int) ≤ n := by omega
      by_cases hlt : n < c
      · have q0 := int_cell (n := n) hA (by simp; omega)
        have z0 := free_obj (i := n) hA
        clear hA
        go_wp2
        refine Round.mk' HR3.out Hmu3.out rfl ?_ ?_
        ·
          have hne := HNE.out
          have hnew := HNEW.out
          refine ⟨n + 1, by omega, by go_num, ⟨?_, ?_⟩, ?_, ?_, HL.out.new (p := ⟨A, n, none⟩) (by simp only; omega) _⟩
          · rw [Below.heap_setCell _ ⟨A, n, none⟩ _ _ (by simp only; omega)]; exact HGT.out.obj
          · rw [Below.heap_setCell _ ⟨A, n, none⟩ _ _ (by simp only; omega)]; exact HGT.out.lanes
          · rw [← fill_set hlt, ← intCells_set]; exact obj_setCell (i := n) HA.out _
          · rw [Below.heap_setCell _ ⟨A, n, none⟩ _ _ (by simp only; omega)]; exact HM.out
        · rw [Hh9.out]; simp [intOf, slots]; omega
      · obtain rfl : n = c := by omega
        have hK : KAt wc wr G L A M ⟨List.replicate n (-1, false), -1, 0⟩ (List.replicate n (-1)) (List.replicate n false) := by
          refine ⟨HGT.out, ?_, ?_, HNE.out, HNEW.out, HL.out⟩
          · rw [hA]; simp
          · rw [HM.out]
        have HK := hid hK
        have HI0 := hid (GInv.start hc1 hc2)
        clear hK hA HGT HA HM HL HGT3 HA3 HL3 hkl hlt hnn
        go_wp2_with fail
        obtain ⟨R4, hR4⟩ : ∃ R : (Nat → Value) → World → Prop, R = (fun us wr => ∃ (k : Nat) (g : Gt) (last : Int) (M : Nat), k ≤ l.length ∧ us 12 = .int .i64 k ∧ us 10 = .int .i64 g.time ∧ us 11 = .int .i64 last ∧ us 8 = .slice (some ⟨M, 0, none⟩) n n ∧ KAt wc wr G L A M g (g.lanes.map (·.1)) (g.lanes.map (·.2)) ∧ GInv n g last ∧ last ≤ k) := ⟨_, rfl⟩
        obtain ⟨mu4, hmu4⟩ : ∃ mu : (Nat → Value) → World → Nat, mu = (fun us _ => l.length - (intOf (us 12)).toNat) := ⟨_, rfl⟩
        have HR4 := hid hR4; have Hmu4 := hid hmu4; clear hR4 hmu4
        refine wp_loop_frame' [false, false, false, false, true, false, false, false, true, false, true, true, true, true, true, true, true, true, true, true, true, true, false, false, false, false, false, false, false, false, false, false, false, false, false, false, false, false, false, false, false, false, false, false, false, false, false, false, false, false, false, true, true, true, true, true, true, true, true, true, true, true, true, true, true, true, true, true, true, true, true, true, true, true, true, true, true, true, true, true, true, true, true, true, true, true, true, true, true, true, true, true, true, true, true, true, true, true, true, true, true, true, true, true, true, true, true, true, true, true, true, true, true, true, true, true, true, true, true, true, true, true, true, true, true, true, true, true, true, true, true, true, true, true, true, true, true, true, true, true, true, true, true, true, true, true, true, true, true, true, true, true, true, true, true, true, true, true, true, true, true, true, true, true, true, true, true, true, true, true, true, true, true, true, true, true, true, true, true, true, true, true, true, true, true, true, true, true, true, true, true, true, true, true, true, true, true, true, true, true, true, true, true, true, true, true, true, true, true, true, true, true, true, true, true, true, true, true, true, true, true, true, true, true, true, true, true, true, true, true, true, true, true, true, true, true, true, true, true, true, true, true, true, true, true] R4 _ mu4 HR4.out ?_ ?_
        · exact ⟨0, ⟨List.replicate n (-1, false), -1, 0⟩, 0, M, by omega, rfl, rfl, rfl, rfl, by simpa using HK.out, HI0.out, by omega⟩
        ·
          clear HK HI0
          intro us4 wr hrel
          obtain ⟨k, g, last, M, hk, h12, h10, h11, h8, hK, hI, hlast⟩ := hrel
          simp only [frameOf, Nat.reduceAdd, h12, h10, h11, h8]
          have Hh12 := hid h12; clear h12
          have Hh10 := hid h10; clear h10
          have Hh11 := hid h11; clear h11
          have Hh8 := hid h8; clear h8
          have hlast0 := hI.last
          have HK := hid hK; have HI := hid hI
          clear hK hI
          unfold maxLen at hl
          by_cases hlt : k < l.length
          · obtain ⟨b, o, rfl, -, hin⟩ := HE.out k hlt
            have hgd := HG.out _ (List.getElem_mem hlt)
            generalize l[k] = x at *
            obtain ⟨xc, e⟩ := x
            obtain ⟨hw1, hw2⟩ := hgd
            have HW := hid hw2
            obtain ⟨p0, p1, p2, ⟨vv, p3, hvv⟩, p4, p5⟩ := hin.later HK.out.later
            have HV := hid hvv
            obtain ⟨va, vc, rfl, -⟩ := hvv
            simp only at hw1 p0 p1 p2 p3 p4 p5
            clear hin hw2
            by_cases h1 : xc < 0
            · go_wp2
              refine Round.mk' HR4.out Hmu4.out rfl ?_ ?_
              · exact ⟨k + 1, g, last, M, by omega, by go_num, rfl, rfl, rfl, HK.out.more (Later.alloc _ _), HI.out, by omega⟩
              · rw [Hh12.out]; simp [intOf, slots]; omega
            by_cases h2 : (n : Int) ≤ xc
            · go_wp2
              refine Round.mk' HR4.out Hmu4.out rfl ?_ ?_
              · exact ⟨k + 1, g, last, M, by omega, by go_num, rfl, rfl, rfl, HK.out.more (Later.alloc _ _), HI.out, by omega⟩
              · rw [Hh12.out]; simp [intOf, slots]; omega
            obtain ⟨j, rfl⟩ := Int.eq_ofNat_of_zero_le (Int.not_lt.1 h1)
            have hj : j < g.lanes.length := by rw [HI.out.len]; omega
            have hj0 : (0 : Int) ≤ j := by omega
            have hjn : (j : Int) < n := by omega
            clear h1 h2
            have hq0 := int_cell HK.out.said (n := j) (by simpa using hj)
            have hq1 := bool_cell HK.out.marked (n := j) (by simpa using hj)
            simp only [List.getElem_map] at hq0 hq1
            have HJ : Hid (g.time ≤ g.lanes[j].1) := hid (keep_told HI.out hj)
            obtain ⟨sj, hsj⟩ : ∃ s, s = g.lanes[j].1 := ⟨_, rfl⟩
            obtain ⟨mj, hmj⟩ : ∃ s, s = g.lanes[j].2 := ⟨_, rfl⟩
            rw [← hsj] at hq0 HJ
            rw [← hmj] at hq1
            have HSJ := hid hsj; have HMJ := hid hmj
            clear hsj hmj
            go_upto_region 20 with (fail)
            obtain ⟨R5, hR5⟩ : ∃ R : (Nat → Value) → World → Prop, R = (fun us w2 => us 98 = .bool (skipB e sj last) ∧ Later (wr.alloc (.cells #[.int .i64 j, .int .i64 e.kind, .int .i64 e.row.time, .slice va e.row.vals.length vc, .int .i64 e.time, .int .i64 e.mark] 71)) w2) := ⟨_, rfl⟩
            have HR5 := hid hR5; clear hR5
            refine wp_cut_frame' [false, false, false, false, false, false, false, false, false, false, false, false, false, false, false, false, false, false, false, false, false, false, false, false, false, false, false, false, false, false, false, false, false, false, false, false, false, false, false, false, false, false, false, false, false, false, false, false, false, false, false, false, false, false, false, false, false, false, false, false, false, false, false, false, false, false, false, false, false, false, true, true, true, true, true, true, true, true, true, true, true, true, true, true, true, true, true, true, true, true, true, true, true, true, true, true, true, true, true] R5 _ HR5.out ?_ ?_
            ·
              have hll : IntKind.i64.wrap (last + 1) = last + 1 := IntWalk.i64_in _ (by omega)
              by_cases k1 : e.kind = 1
              · by_cases ht : e.row.time < sj
                ·
                  refine wp_region_lex (by kernel_rfl) (by kernel_rfl) Later Later.refl Later.trans (fun _ => none) (fun _ _ _ _ _ h => by cases h) ?_
                  simp only [numbered, Nat.reduceAdd]
                  refine LexS.out ?_
                  iterate 29
                    first
                    | (refine LexS.skip rfl ?_; simp only [Act.put, List.setIfInBounds_toArray, List.set])
                    | (refine LexS.one' rfl rfl ?_
                       apply Exists.intro
                       refine ⟨fun w hR hF => ?_, ?_⟩
                       · have hP := hR
                         repeat (first | replace hP := Later.of_drew hP | replace hP := Later.of_drewN hP | replace hP := Later.of_alloc hP)
                         have hcs := hR.cells
                         have zhq0 := hP.cell hq0
                         clear hR hF hP
                         go_simp
                         first | done | rfl
                       simp only [Act.put, List.setIfInBounds_toArray, List.set])
                  refine LexS.nil ?_
                  intro w2 hR2 hF9
                  clear hF9
                  go_wp2_with fail
                  refine Meet.mk' HR5.out rfl ?_
                  exact ⟨congrArg Value.bool (by simp [skipB, k1, ht]), Later.of_drew hR2⟩
                ·
                  refine wp_region_lex (by kernel_rfl) (by kernel_rfl) Later Later.refl Later.trans (fun _ => none) (fun _ _ _ _ _ h => by cases h) ?_
                  simp only [numbered, Nat.reduceAdd]
                  refine LexS.out ?_
                  iterate 29
                    first
                    | (refine LexS.skip rfl ?_; simp only [Act.put, List.setIfInBounds_toArray, List.set])
                    | (refine LexS.one' rfl rfl ?_
                       apply Exists.intro
                       refine ⟨fun w hR hF => ?_, ?_⟩
                       · have hP := hR
                         repeat (first | replace hP := Later.of_drew hP | replace hP := Later.of_drewN hP | replace hP := Later.of_alloc hP)
                         have hcs := hR.cells
                         have zhq0 := hP.cell hq0
                         clear hR hF hP
                         go_simp
                         first | done | rfl
                       simp only [Act.put, List.setIfInBounds_toArray, List.set])
                  refine LexS.nil ?_
                  intro w2 hR2 hF9
                  clear hF9
                  go_wp2_with fail
                  refine Meet.mk' HR5.out rfl ?_
                  exact ⟨congrArg Value.bool (by simp [skipB, k1, ht]), Later.of_drew hR2⟩
              · have k1' : (e.kind == 1) = false := by simpa using k1
                by_cases k3 : e.kind = 3
                · by_cases hm : e.mark = last + 1
                  · have hm' : (e.mark != last + 1) = false := by simp [hm]
                    refine wp_region_lex (by kernel_rfl) (by kernel_rfl) Later Later.refl Later.trans (fun _ => none) (fun _ _ _ _ _ h => by cases h) ?_
                    simp only [numbered, Nat.reduceAdd]
                    refine LexS.out ?_
                    iterate 29
                      first
                      | (refine LexS.skip rfl ?_; simp only [Act.put, List.setIfInBounds_toArray, List.set])
                      | (refine LexS.one' rfl rfl ?_
                         apply Exists.intro
                         refine ⟨fun w hR hF => ?_, ?_⟩
                         · have hP := hR
                           repeat (first | replace hP := Later.of_drew hP | replace hP := Later.of_drewN hP | replace hP := Later.of_alloc hP)
                           have hcs := hR.cells
                           have zhq0 := hP.cell hq0
                           clear hR hF hP
                           go_simp
                           first | done | rfl
                         simp only [Act.put, List.setIfInBounds_toArray, List.set])
                    refine LexS.nil ?_
                    intro w2 hR2 hF9
                    clear hF9
                    go_wp2_with fail
                    refine Meet.mk' HR5.out rfl ?_
                    exact ⟨congrArg Value.bool (by simp [skipB, k1', k3, hm']), Later.of_drew hR2⟩
                  · have hm' : (e.mark != last + 1) = true := by simp [hm]
                    refine wp_region_lex (by kernel_rfl) (by kernel_rfl) Later Later.refl Later.trans (fun _ => none) (fun _ _ _ _ _ h => by cases h) ?_
                    simp only [numbered, Nat.reduceAdd]
                    refine LexS.out ?_
                    iterate 29
                      first
                      | (refine LexS.skip rfl ?_; simp only [Act.put, List.setIfInBounds_toArray, List.set])
                      | (refine LexS.one' rfl rfl ?_
                         apply Exists.intro
                         refine ⟨fun w hR hF => ?_, ?_⟩
                         · have hP := hR
                           repeat (first | replace hP := Later.of_drew hP | replace hP := Later.of_drewN hP | replace hP := Later.of_alloc hP)
                           have hcs := hR.cells
                           have zhq0 := hP.cell hq0
                           clear hR hF hP
                           go_simp
                           first | done | rfl
                         simp only [Act.put, List.setIfInBounds_toArray, List.set])
                    refine LexS.nil ?_
                    intro w2 hR2 hF9
                    clear hF9
                    go_wp2_with fail
                    refine Meet.mk' HR5.out rfl ?_
                    exact ⟨congrArg Value.bool (by simp [skipB, k1', k3, hm']), Later.of_drew hR2⟩
                · have k3' : (e.kind == 3) = false := by simpa using k3
                  refine wp_region_lex (by kernel_rfl) (by kernel_rfl) Later Later.refl Later.trans (fun _ => none) (fun _ _ _ _ _ h => by cases h) ?_
                  simp only [numbered, Nat.reduceAdd]
                  refine LexS.out ?_
                  iterate 29
                    first
                    | (refine LexS.skip rfl ?_; simp only [Act.put, List.setIfInBounds_toArray, List.set])
                    | (refine LexS.one' rfl rfl ?_
                       apply Exists.intro
                       refine ⟨fun w hR hF => ?_, ?_⟩
                       · have hP := hR
                         repeat (first | replace hP := Later.of_drew hP | replace hP := Later.of_drewN hP | replace hP := Later.of_alloc hP)
                         have hcs := hR.cells
                         have zhq0 := hP.cell hq0
                         clear hR hF hP
                         go_simp
                         first | done | rfl
                       simp only [Act.put, List.setIfInBounds_toArray, List.set])
                  refine LexS.nil ?_
                  intro w2 hR2 hF9
                  clear hF9
                  go_wp2_with fail
                  refine Meet.mk' HR5.out rfl ?_
                  exact ⟨congrArg Value.bool (by simp [skipB, k1', k3']), Later.of_drew hR2⟩
            intro us5 w2 hrel
            obtain ⟨h98, hL2⟩ := hrel
            simp only [frameOf, Nat.reduceAdd, h98]
            have Hh98 := hid h98; clear h98
            have hX := hL2.obj (obj_new wr _)
            have hL0 := Later.of_alloc hL2
            have HK2 := hid (HK.out.more hL0)
            have HX := hid hX
            have HL0 := hid hL0
            clear hX hL0 hL2 hq0 hq1 p0 p1 p2 p3 p4 p5
            cases hsk : skipB e sj last with
            | true =>
              go_wp2
              refine Round.mk' HR4.out Hmu4.out rfl ?_ ?_
              · exact ⟨k + 1, g, last, M, by omega, by go_num, rfl, rfl, rfl, HK2.out, HI.out, by omega⟩
              · rw [Hh12.out]; simp [intOf, slots]; omega
            | false =>
              have HSK := hid hsk
              clear hsk
              go_wp2_with fail
              refine (gate_open G L g j _ HK2.out.gate hw1 HI.out.ok.most).mono ?_
              rintro e2 w3 ⟨rfl, hL3⟩
              rw [openG_nat hj, ← HMJ.out]
              have HK3 := hid (HK2.out.more hL3)
              have hq1 := bool_cell HK3.out.marked (n := j) (by simpa using hj)
              simp only [List.getElem_map] at hq1
              rw [← HMJ.out] at hq1
              have hX := hL3.obj HX.out
              have x0 := cell_obj (i := 0) hX rfl
              have x1 := cell_obj (i := 1) hX rfl
              have x2 := cell_obj (i := 2) hX rfl
              have x3 := cell_obj (i := 3) hX rfl
              have x4 := cell_obj (i := 4) hX rfl
              have x5 := cell_obj (i := 5) hX rfl
              have hL03 := Later.trans _ _ _ HL0.out hL3
              have HL3 := hid hL03
              have HX3 := hid hX
              have HV3 := hid (HV.out.later hL03)
              have hxs : wr.heap.size < w3.heap.size := (Array.getElem?_eq_some_iff.1 hX).1
              have hxn : wr.heap.size ≠ G ∧ wr.heap.size ≠ L := by
                have a1 : G < wr.heap.size := (Array.getElem?_eq_some_iff.1 HK.out.gate.obj).1
                have a2 : L < wr.heap.size := (Array.getElem?_eq_some_iff.1 HK.out.gate.lanes).1
                omega
              have HXN := hid hxn
              have HAM : Hid (A < w3.heap.size ∧ M < w3.heap.size) := hid ⟨(Array.getElem?_eq_some_iff.1 HK3.out.said).1, (Array.getElem?_eq_some_iff.1 HK3.out.marked).1⟩
              clear hL3 hX hL03 HK2 HX HL0 HK HV hxn
              cases hmv : mj with
              | true =>
                have HMV := hid hmv
                have HT := hid (show takeG g j e = (g, 6, []) from keep_shut hj (HMJ.out.symm.trans hmv))
                rw [hmv] at hq1
                clear hmv
                go_wp2_with fail
                refine (gate_take G L g j e _ _ HK3.out.gate HK3.out.ne.1 HI.out.ok hw1 HV3.out (by have := HW.out.2.1.2.2; unfold reachBytes at this; omega)).mono ?_
                intro e3 w4 hT4
                obtain ⟨ga, gc, rfl, hg4, hel, hk4⟩ := hT4.got (ev := .iface 22 (.int .i64 6)) (n := 0) HT.out rfl rfl
                have hX := hk4.obj (b := wr.heap.size) ⟨HXN.out.1, HXN.out.2⟩ HX3.out
                replace x1 := cell_obj (i := 1) hX rfl
                replace x2 := cell_obj (i := 2) hX rfl
                replace x4 := cell_obj (i := 4) hX rfl
                replace x5 := cell_obj (i := 5) hX rfl
                clear hX x0 x3
                have HK4 := hid (HK3.out.taken hg4 hk4)
                replace hq1 := bool_cell HK4.out.marked (n := j) (by simpa using hj)
                simp only [List.getElem_map] at hq1
                rw [← HMJ.out] at hq1
                have HEL := hid hel
                clear hT4 hg4 hk4 HK3 hel HX3
                rw [HMV.out] at hq1
                go_wp2
                refine Round.mk' HR4.out Hmu4.out rfl ?_ ?_
                · exact ⟨k + 1, g, last, M, by omega, by go_num, rfl, rfl, rfl, HK4.out, HI.out, by omega⟩
                · rw [Hh12.out]; simp [intOf, slots]; omega
              | false =>
                have HMV := hid hmv
                have hmf := HMJ.out.symm.trans hmv
                rw [hmv] at hq1
                clear hmv
                by_cases k1 : e.kind = 1
                · have HT := hid (show takeG g j e = _ from keep_row hj hmf k1)
                  have hrt : ¬ e.row.time < g.time := by
                    have a := HSK.out
                    have b := HJ.out
                    simp only [skipB, k1, beq_self_eq_true, Bool.true_and, Bool.or_eq_false_iff, decide_eq_false_iff_not] at a
                    omega
                  have K1 := hid k1
                  clear hmf k1
                  go_wp2_with fail
                  refine (gate_take G L g j e _ _ HK3.out.gate HK3.out.ne.1 HI.out.ok hw1 HV3.out (by have := HW.out.2.1.2.2; unfold reachBytes at this; omega)).mono ?_
                  intro e3 w4 hT4
                  obtain ⟨ga, gc, rfl, hg4, hel, hk4⟩ := hT4.got (ev := .nilIface) (n := 1) HT.out rfl rfl
                  have hX := hk4.obj (b := wr.heap.size) ⟨HXN.out.1, HXN.out.2⟩ HX3.out
                  replace x1 := cell_obj (i := 1) hX rfl
                  replace x2 := cell_obj (i := 2) hX rfl
                  replace x4 := cell_obj (i := 4) hX rfl
                  replace x5 := cell_obj (i := 5) hX rfl
                  clear hX x0 x3
                  have HK4 := hid (HK3.out.taken hg4 hk4)
                  replace hq1 := bool_cell HK4.out.marked (n := j) (by simpa using hj)
                  simp only [List.getElem_map] at hq1
                  rw [← HMJ.out] at hq1
                  have HEL := hid hel
                  clear hT4 hg4 hk4 HK3 hel HX3
                  rw [HMV.out] at hq1
                  rw [K1.out] at x1
                  obtain ⟨b1, o1, rfl, -, -, r1, -⟩ := HEL.out 0 (by simp)
                  simp only [List.getElem_cons_zero, Nat.zero_mul, Nat.add_zero] at r1
                  go_wp2
                  refine Round.mk' HR4.out Hmu4.out rfl ?_ ?_
                  · exact ⟨k + 1, g, last, M, by omega, by go_num, rfl, rfl, rfl, HK4.out, HI.out, by omega⟩
                  · rw [Hh12.out]; simp [intOf, slots]; omega
                by_cases k2 : e.kind = 2
                · obtain ⟨g', cd, es, hT, hI', hmk', hcd, hes'⟩ := keep_when HI.out hj hmf k2
                  have HT := hid hT
                  have HI' := hid hI'
                  have HCD := hid hcd
                  have HES := hid hes'
                  have HMK := hid hmk'
                  have K1 := hid k2
                  clear hmf hT hI' hcd hes' hmk' k1 k2
                  go_wp2_with fail
                  refine (gate_take G L g j e _ _ HK3.out.gate HK3.out.ne.1 HI.out.ok hw1 HV3.out (by have := HW.out.2.1.2.2; unfold reachBytes at this; omega)).mono ?_
                  intro e3 w4 hT4
                  obtain ⟨ga, gc, rfl, hg4, hel, hk4⟩ := hT4.got (ev := errVal cd) (n := es.length) HT.out rfl rfl
                  have hX := hk4.obj (b := wr.heap.size) ⟨HXN.out.1, HXN.out.2⟩ HX3.out
                  replace x1 := cell_obj (i := 1) hX rfl
                  replace x2 := cell_obj (i := 2) hX rfl
                  replace x4 := cell_obj (i := 4) hX rfl
                  replace x5 := cell_obj (i := 5) hX rfl
                  clear hX x0 x3
                  have HK4 := hid (HK3.out.taken hg4 hk4)
                  replace hq1 := bool_cell HK4.out.marked (n := j) (by simpa using hj)
                  simp only [List.getElem_map] at hq1
                  rw [← HMJ.out, HMV.out] at hq1
                  rw [K1.out] at x1
                  have HEL := hid hel
                  clear hT4 hg4 hk4 HK3 hel HX3
                  have hy0 := int_cell HK4.out.said (n := j) (by simpa using hj)
                  obtain ⟨bb, hbb⟩ : ∃ bb : Bool, bb = decide (cd = 0) := ⟨_, rfl⟩
                  have HBB := hid hbb
                  clear hbb
                  go_upto_region 33 with (fail)
                  obtain ⟨R6, hR6⟩ : ∃ R : (Nat → Value) → World → Prop, R = (fun us w5 => us 151 = .bool bb ∧ w5 = w4) := ⟨_, rfl⟩
                  have HR6 := hid hR6; clear hR6
                  refine wp_cut_frame' [false, false, false, false, false, false, false, false, false, false, false, false, false, false, false, false, false, false, false, false, false, false, false, false, false, false, false, false, false, false, false, false, false, false, false, false, false, false, false, false, false, false, false, false, false, false, false, false, false, false, false, false, false, false, false, false, false, false, false, false, false, false, false, false, false, false, false, false, false, false, false, false, false, false, false, false, false, false, false, false, false, false, false, false, false, false, false, false, false, false, false, false, false, false, false, false, false, false, false, false, false, false, false, false, false, false, false, false, false, false, false, false, false, false, false, false, false, false, false, false, false, false, false, false, false, false, false, false, false, false, false, false, false, false, false, false, false, false, false, false, false, false, false, false, false, false, false, false, false, false, true, true] R6 _ HR6.out ?_ ?_
                  · rcases HCD.out with ⟨rfl, -⟩ | ⟨rfl, -⟩
                    · rw [show errVal 0 = .nilIface from rfl]
                      go_wp2_with fail
                      refine Meet.mk' HR6.out rfl ?_
                      exact ⟨by rw [HBB.out]; rfl, rfl⟩
                    · rw [show errVal 4 = .iface 22 (.int .i64 4) from rfl]
                      go_wp2_with fail
                      refine Meet.mk' HR6.out rfl ?_
                      exact ⟨by rw [HBB.out]; rfl, rfl⟩
                  intro us6 w5 hrel
                  obtain ⟨h151, rfl⟩ := hrel
                  simp only [frameOf, Nat.reduceAdd, h151]
                  have Hh151 := hid h151; clear h151
                  go_upto_if 151 with (fail)
                  obtain ⟨R7, hR7⟩ : ∃ R : (Nat → Value) → World → Prop, R = (fun us w6 => KAt wc w6 G L A M g' (g'.lanes.map (·.1)) (g'.lanes.map (·.2)) ∧ Elems (fun b => w3.heap.size ≤ b) (ElemAt (fun b => w3.heap.size ≤ b)) 5 w6 ga es) := ⟨_, rfl⟩
                  have HR7 := hid hR7; clear hR7
                  refine wp_cut_frame' [false, false, false, false, false, false, false, false, false, false, false, false, false, false, false, false, false, false, false, false, false, false, false, false, false, false, false, false, false, false, false, false, false, false, false, false, false, false, false, false, false, false, false, false, false, false, false, false, false, false, false, false, false, false, false, false, false, false, false, false, false, false, false, false, false, false, false, false, false, false, false, false, false, false, false, false, false, false, false, false, false, false, false, false, false, false, false, false, false, false, false, false, false, false, false, false, false, false, false, false, false, false, false, false, false, false, false, false, false, false, false, false, false, false, false, false, false, false, false, false, false, false, false, false, false, false, false, false, false, false, false, false, false, false, false, false, false, false, false, false, false, false, false, false, false, false, false, false, false, false, false, false, true, true, true, true, true, true] R7 _ HR7.out ?_ ?_
                  · rcases HCD.out with ⟨hc, hs⟩ | ⟨hc, hs⟩
                    · obtain rfl : bb = true := by rw [HBB.out, hc]; rfl
                      have z0 := free_obj (i := j) HK4.out.said
                      have HS := hid hs
                      clear hc hs
                      go_wp2_with fail
                      refine Meet.mk' HR7.out rfl ?_
                      refine ⟨?_, ?_⟩
                      · rw [HS.out, HMK.out]; exact HK4.out.set_said j _
                      · exact elems_kept HEL.out ((Keeps.refl (fun b => b ≠ A) _).setCell (.inl (fun h => h rfl)) _) (fun b hb => by have := HAM.out.1; omega)
                    · obtain rfl : bb = false := by rw [HBB.out, hc]; rfl
                      have HS := hid hs
                      clear hc hs
                      go_wp2_with fail
                      refine Meet.mk' HR7.out rfl ?_
                      exact ⟨by rw [HS.out, HMK.out]; exact HK4.out, HEL.out⟩
                  intro us7 w6 hrel
                  obtain ⟨hK6, hel6⟩ := hrel
                  simp only [frameOf, Nat.reduceAdd]
                  have HK6 := hid hK6
                  have HEL6 := hid hel6
                  clear hK6 hel6 x1 x2 x4 x5 hq1 hy0 HK4 HEL HT
                  go_wp2_with fail
                  obtain ⟨R8, hR8⟩ : ∃ R : (Nat → Value) → World → Prop, R = (fun us wx => ∃ m : Nat, m ≤ es.length ∧ us 18 = .int .i64 m ∧ us 10 = .int .i64 (if m = 0 then g.time else g'.time) ∧ wx = w6) := ⟨_, rfl⟩
                  obtain ⟨mu8, hmu8⟩ : ∃ mu : (Nat → Value) → World → Nat, mu = (fun us _ => es.length - (intOf (us 18)).toNat) := ⟨_, rfl⟩
                  have HR8 := hid hR8; have Hmu8 := hid hmu8; clear hR8 hmu8
                  refine wp_loop_frame' [false, false, false, false, true, false, false, false, false, false, true, false, false, false, false, false, false, false, true, false, false, false, false, false, false, false, false, false, false, false, false, false, false, false, false, false, false, false, false, false, false, false, false, false, false, false, false, false, false, false, false, false, false, false, false, false, false, false, false, false, false, false, false, false, false, false, false, false, false, false, false, false, false, false, false, false, false, false, false, false, false, false, false, false, false, false, false, false, false, false, false, false, false, false, false, false, false, false, false, false, false, false, false, false, false, false, false, false, false, false, false, false, false, false, false, false, false, false, false, false, false, false, false, false, false, false, false, false, false, false, false, false, false, false, false, false, false, false, false, false, false, false, false, false, false, false, false, false, false, false, false, false, false, false, false, false, false, false, true, true, true, true, true, true, true, true, true, true, true, true, true, true, true, true, true, true, true, true, true, true, true, true, true, true] R8 _ mu8 HR8.out ?_ ?_
                  · exact ⟨0, by omega, rfl, rfl, rfl⟩
                  intro us8 wx hrel
                  obtain ⟨m, hm, h18, h10, rfl⟩ := hrel
                  simp only [frameOf, Nat.reduceAdd, h18, h10]
                  have Hh18 := hid h18; clear h18
                  have Hh10 := hid h10; clear h10
                  have hes1 : es.length ≤ 1 := by rcases HES.out with ⟨h, _⟩ | ⟨h, _⟩ <;> rw [h] <;> simp
                  by_cases hlt2 : m < es.length
                  · obtain rfl : m = 0 := by omega
                    have hes2 : es = [⟨2, ⟨0, []⟩, g'.time, 0⟩] ∧ g.time < g'.time := by
                      rcases HES.out with ⟨h, _⟩ | h
                      · rw [h] at hlt2; simp at hlt2
                      · exact h
                    obtain ⟨b1, o1, rfl, -, r0, -, -, r3, -⟩ := HEL6.out 0 hlt2
                    have hup := hes2.2
                    have e0 : es[0] = ⟨2, ⟨0, []⟩, g'.time, 0⟩ := by simp [hes2.1]
                    rw [e0] at r0 r3
                    simp only [Nat.zero_mul, Nat.add_zero] at r0 r3
                    rw [if_pos rfl]
                    clear e0 hes2
                    go_wp2
                    refine Round.mk' HR8.out Hmu8.out rfl ?_ ?_
                    · exact ⟨1, by omega, rfl, rfl, rfl⟩
                    · rw [Hh18.out]; simp [intOf, slots]; omega
                  · have htt : (if m = 0 then g.time else g'.time) = g'.time := by
                      rcases HES.out with ⟨h, h'⟩ | ⟨h, h'⟩
                      · rw [h']; split <;> rfl
                      · rw [if_neg]; intro h0; rw [h, h0] at hlt2; simp at hlt2
                    rw [htt]
                    clear htt
                    go_wp2_with fail
                    obtain ⟨R9, hR9⟩ : ∃ R : (Nat → Value) → World → Prop, R = (fun us wx' => ∃ m : Nat, m ≤ n ∧ us 19 = .int .i64 m ∧ wx' = wx) := ⟨_, rfl⟩
                    obtain ⟨mu9, hmu9⟩ : ∃ mu : (Nat → Value) → World → Nat, mu = (fun us _ => n - (intOf (us 19)).toNat) := ⟨_, rfl⟩
                    have HR9 := hid hR9; have Hmu9 := hid hmu9; clear hR9 hmu9
                    refine wp_loop_frame' [false, false, false, false, true, false, false, false, false, false, false, false, false, false, false, false, false, false, false, true, false, false, false, false, false, false, false, false, false, false, false, false, false, false, false, false, false, false, false, false, false, false, false, false, false, false, false, false, false, false, false, false, false, false, false, false, false, false, false, false, false, false, false, false, false, false, false, false, false, false, false, false, false, false, false, false, false, false, false, false, false, false, false, false, false, false, false, false, false, false, false, false, false, false, false, false, false, false, false, false, false, false, false, false, false, false, false, false, false, false, false, false, false, false, false, false, false, false, false, false, false, false, false, false, false, false, false, false, false, false, false, false, false, false, false, false, false, false, false, false, false, false, false, false, false, false, false, false, false, false, false, false, false, false, false, false, false, false, false, false, false, false, false, false, false, false, false, false, false, false, false, false, false, false, false, false, false, false, false, false, false, false, false, false, true, true, true, true, true, true, true, true, true, true, true] R9 _ mu9 HR9.out ?_ ?_
                    · exact ⟨0, by omega, rfl, rfl⟩
                    intro us9 wy hrel
                    obtain ⟨m2, hm2, h19, rfl⟩ := hrel
                    simp only [frameOf, Nat.reduceAdd, h19]
                    have Hh19 := hid h19; clear h19
                    by_cases hlt3 : m2 < n
                    · have hy0 := int_cell HK6.out.said (n := m2) (by rw [List.length_map, HI'.out.len]; exact hlt3)
                      have hty := keep_told HI'.out (n := m2) (by rw [HI'.out.len]; exact hlt3)
                      simp only [List.getElem_map] at hy0
                      generalize (g'.lanes[m2]'(by rw [HI'.out.len]; exact hlt3)).1 = sy at *
                      go_wp2
                      refine Round.mk' HR9.out Hmu9.out rfl ?_ ?_
                      · exact ⟨m2 + 1, by omega, by go_num, rfl⟩
                      · rw [Hh19.out]; simp [intOf, slots]; omega
                    · go_wp2
                      refine Round.mk' HR4.out Hmu4.out rfl ?_ ?_
                      · exact ⟨k + 1, g', last, M, by omega, by go_num, rfl, rfl, rfl, HK6.out, HI'.out, by omega⟩
                      · rw [Hh12.out]; simp [intOf, slots]; omega
                by_cases k3 : e.kind = 3
                · have hmk : e.mark = last + 1 := by
                    have a := HSK.out
                    simp only [skipB, k3, beq_self_eq_true, Bool.true_and, Bool.or_eq_false_iff] at a
                    simpa using a.2
                  obtain ⟨g', es, hT, htm, hfst, hc⟩ := keep_mark HI.out hj hmf k3 hmk
                  have HT := hid hT
                  have HFST := hid hfst
                  have HC := hid hc
                  have HTM := hid htm
                  have K1 := hid k3
                  clear hmf hT hfst hc htm k1 k2 k3 hmk
                  go_wp2_with fail
                  refine (gate_take G L g j e _ _ HK3.out.gate HK3.out.ne.1 HI.out.ok hw1 HV3.out (by have := HW.out.2.1.2.2; unfold reachBytes at this; omega)).mono ?_
                  intro e3 w4 hT4
                  obtain ⟨ga, gc, rfl, hg4, hel, hk4⟩ := hT4.got (ev := .nilIface) (n := es.length) HT.out rfl rfl
                  have hX := hk4.obj (b := wr.heap.size) ⟨HXN.out.1, HXN.out.2⟩ HX3.out
                  replace x1 := cell_obj (i := 1) hX rfl
                  replace x2 := cell_obj (i := 2) hX rfl
                  replace x4 := cell_obj (i := 4) hX rfl
                  replace x5 := cell_obj (i := 5) hX rfl
                  clear hX x0 x3
                  have HK4 := hid (HK3.out.taken hg4 hk4)
                  replace hq1 := bool_cell HK4.out.marked (n := j) (by simpa using hj)
                  simp only [List.getElem_map] at hq1
                  rw [← HMJ.out, HMV.out] at hq1
                  rw [K1.out] at x1
                  have HEL := hid hel
                  clear hT4 hg4 hk4 HK3 hel HX3
                  have z0 := free_obj (i := j) HK4.out.marked
                  go_wp2_with fail
                  have HK5 := hid (HK4.out.set_marked j true)
                  have HEL5 := hid (elems_kept HEL.out ((Keeps.refl (fun b => b ≠ M) _).setCell (p := ⟨M, j, none⟩) (.inl (fun h => h rfl)) (.bool true)) (fun b hb => by have := HAM.out.2; omega))
                  generalize w4.setCell ⟨M, j, none⟩ (.bool true) = w5 at *
                  obtain ⟨mk, hmk⟩ : ∃ mk, mk = (g.lanes.map (·.2)).set j true := ⟨_, rfl⟩
                  have hmkl : mk.length = n := by rw [hmk, List.length_set, List.length_map, HI.out.len]
                  have HC' := HC.out
                  have HK5' := HK5.out
                  rw [← hmk] at HC' HK5'
                  have HC6 := hid HC'
                  have HK6 := hid HK5'
                  have HMKL := hid hmkl
                  clear hmk hmkl HC' HK5' HC HK5 HK4 HEL x1 x2 x4 x5 hq1 z0
                  obtain ⟨R10, hR10⟩ : ∃ R : (Nat → Value) → World → Prop, R = (fun us wx => ∃ m : Nat, m ≤ n ∧ us 21 = .int .i64 m ∧ us 20 = .bool ((mk.take m).all id) ∧ wx = w5) := ⟨_, rfl⟩
                  obtain ⟨mu10, hmu10⟩ : ∃ mu : (Nat → Value) → World → Nat, mu = (fun us _ => n - (intOf (us 21)).toNat) := ⟨_, rfl⟩
                  have HR10 := hid hR10; have Hmu10 := hid hmu10; clear hR10 hmu10
                  refine wp_loop_frame' [false, false, false, false, false, false, false, false, false, false, false, false, false, false, false, false, false, false, false, false, true, true, false, false, false, false, false, false, false, false, false, false, false, false, false, false, false, false, false, false, false, false, false, false, false, false, false, false, false, false, false, false, false, false, false, false, false, false, false, false, false, false, false, false, false, false, false, false, false, false, false, false, false, false, false, false, false, false, false, false, false, false, false, false, false, false, false, false, false, false, false, false, false, false, false, false, false, false, false, false, false, false, false, false, false, false, false, false, false, false, false, false, false, false, false, false, false, false, false, false, false, false, false, false, false, false, false, false, false, false, false, false, false, false, false, false, false, false, false, false, false, false, false, false, false, false, false, false, false, false, false, false, false, false, false, false, false, false, false, false, false, false, false, false, false, false, false, false, false, false, false, false, false, false, false, false, false, false, false, false, false, false, false, false, false, false, false, false, false, false, false, false, false, false, false, false, false, false, false, false, true, true, true, true, true, true, true, true, true, true, true, true] R10 _ mu10 HR10.out ?_ ?_
                  · exact ⟨0, by omega, rfl, rfl, rfl⟩
                  intro us10 wx hrel
                  obtain ⟨m, hm, h21, h20, rfl⟩ := hrel
                  simp only [frameOf, Nat.reduceAdd, h21, h20]
                  have Hh21 := hid h21; clear h21
                  have Hh20 := hid h20; clear h20
                  by_cases hlt2 : m < n
                  · have hml : m < mk.length := by rw [HMKL.out]; exact hlt2
                    have hy0 := bool_cell HK6.out.marked hml
                    have HS := hid (all_snoc hml)
                    obtain ⟨my, hmy⟩ : ∃ my, my = mk[m] := ⟨_, rfl⟩
                    rw [← hmy] at hy0
                    have HMY := hid hmy
                    clear hmy
                    cases hall : (mk.take m).all id with
                    | true =>
                      have HALL := hid hall
                      clear hall
                      go_wp2
                      refine Round.mk' HR10.out Hmu10.out rfl ?_ ?_
                      · exact ⟨m + 1, by omega, by go_num, congrArg Value.bool (by rw [HS.out, HALL.out, HMY.out]; rfl), rfl⟩
                      · rw [Hh21.out]; simp [intOf, slots]; omega
                    | false =>
                      have HALL := hid hall
                      clear hall
                      go_wp2
                      refine Round.mk' HR10.out Hmu10.out rfl ?_ ?_
                      · exact ⟨m + 1, by omega, by go_num, congrArg Value.bool (by rw [HS.out, HALL.out]; rfl), rfl⟩
                      · rw [Hh21.out]; simp [intOf, slots]; omega
                  · rw [List.take_of_length_le (by rw [HMKL.out]; omega)]
                    rcases HC6.out with ⟨ha, rfl, hs2, hI'⟩ | ⟨ha, rfl, hs2, hI'⟩
                    · rw [ha]
                      have HS2 := hid hs2
                      have HI' := hid hI'
                      clear ha hs2 hI'
                      simp only [List.length_nil]
                      go_wp2
                      refine Round.mk' HR4.out Hmu4.out rfl ?_ ?_
                      · exact ⟨k + 1, g', last, M, by omega, by go_num, congrArg (Value.int .i64) HTM.out.symm, rfl, rfl, by rw [HFST.out, HS2.out]; exact HK6.out, HI'.out, by omega⟩
                      · rw [Hh12.out]; simp [intOf, slots]; omega
                    · rw [ha]
                      have HS2 := hid hs2
                      have HI' := hid hI'
                      clear ha hs2 hI'
                      simp only [List.length_cons, List.length_nil, Nat.zero_add]
                      obtain ⟨b1, o1, rfl, -, r0, -, -, -, r4⟩ := HEL5.out 0 (by simp)
                      simp only [List.getElem_cons_zero, Nat.zero_mul, Nat.add_zero] at r0 r4
                      have hll : IntKind.i64.wrap (last + 1) = last + 1 := IntWalk.i64_in _ (by omega)
                      have hkl : IntKind.i64.wrap (n : Int) = n := IntWalk.i64_in (n : Int) (by omega)
                      go_wp2_with (at_make; go_loud (refine wpList_make_full _ rfl _ _ 69 rfl wx.heap.size 4 ib _ 1 Try.underlying69 BI.out BZ0.out BZ1.out .i64 .i64 n n n ?b1 ?b2 rfl rfl ?b3 ?b4 (Nat.le_refl _) ?_))
                      case b3 => rw [BZ2.out]; omega
                      case b4 => unfold maxLen; omega
                      intro w7 hown hgrow
                      have hM := owned_block hown
                      rw [boolCells_zero _ n (by exact toList_madeCells_one _ _)] at hM
                      have hl7 : Later wx w7 := Keeps.later ((Keeps.of_grown hgrow).mono fun _ _ _ => by simp)
                      have HK7 := hid (HK6.out.fresh hl7 (Nat.le_refl _) hM)
                      clear hown hgrow hM hl7 r0 r4 hkl
                      go_wp2
                      refine Round.mk' HR4.out Hmu4.out rfl ?_ ?_
                      · exact ⟨k + 1, g', last + 1, wx.heap.size, by omega, by go_num, congrArg (Value.int .i64) HTM.out.symm, by simp [slots, hll], rfl, by rw [HFST.out, HS2.out]; exact HK7.out, HI'.out, by omega⟩
                      · rw [Hh12.out]; simp [intOf, slots]; omega
                · have HT := hid (show takeG g j e = _ from keep_odd hj hmf k1 k2 k3)
                  have K1 : Hid (e.kind = id e.kind) := hid rfl
                  clear hmf
                  go_wp2_with fail
                  refine (gate_take G L g j e _ _ HK3.out.gate HK3.out.ne.1 HI.out.ok hw1 HV3.out (by have := HW.out.2.1.2.2; unfold reachBytes at this; omega)).mono ?_
                  intro e3 w4 hT4
                  obtain ⟨ga, gc, rfl, hg4, hel, hk4⟩ := hT4.got (ev := .iface 22 (.int .i64 4)) (n := 0) HT.out rfl rfl
                  have hX := hk4.obj (b := wr.heap.size) ⟨HXN.out.1, HXN.out.2⟩ HX3.out
                  replace x1 := cell_obj (i := 1) hX rfl
                  replace x2 := cell_obj (i := 2) hX rfl
                  replace x4 := cell_obj (i := 4) hX rfl
                  replace x5 := cell_obj (i := 5) hX rfl
                  clear hX x0 x3
                  have HK4 := hid (HK3.out.taken hg4 hk4)
                  replace hq1 := bool_cell HK4.out.marked (n := j) (by simpa using hj)
                  simp only [List.getElem_map] at hq1
                  rw [← HMJ.out, HMV.out] at hq1
                  have HEL := hid hel
                  clear hT4 hg4 hk4 HK3 hel HX3
                  go_wp2
                  refine Round.mk' HR4.out Hmu4.out rfl ?_ ?_
                  · exact ⟨k + 1, g, last, M, by omega, by go_num, rfl, rfl, rfl, HK4.out, HI.out, by omega⟩
                  · rw [Hh12.out]; simp [intOf, slots]; omega
          · go_wp2
            go_ret
            exact ⟨rfl, HK.out.later⟩
end Go.Proofs.Ytjpdmlopbflggaa
