/-
  PROVED HERE: streamwrightlaw4.SourceSteps returns true, for every rows, bound and script.
-/
import Derived.Test.YthfgjmdmcoogpaaDoorFlows
import Derived.Test.YthfgjmdmcoogpaaDoorSrcSeek
namespace Go.Proofs.YthfgjmdmcoogpaaDoor
set_option linter.unusedSimpArgs false
set_option linter.unusedVariables false
open Go.RowKit

/-- a step of a script. -/
structure Op4 where
  kind : Int
  a : Int
def Op4At (w : World) (b o : Nat) (x : Op4) : Prop := w.cell? ⟨b, o, none⟩ = some (.int .i64 x.kind) ∧ w.cell? ⟨b, o + 1, none⟩ = some (.int .i64 x.a)
abbrev IsOps4 (w : World) (v : Value) (l : List Op4) : Prop := SliceOf All Op4At 2 w v l

theorem RdrAt.kept {S0 S : Nat → Prop} {w w' : World} {R : Nat} {s : Src} (h : RdrAt S0 w R s) (k : Keeps S w w') (hR : S R) (hs : ∀ b, R < b → S0 b → S b) : RdrAt S0 w' R s :=
  let ⟨sv, h1, h2⟩ := h; ⟨sv, k.obj hR h1, h2.rows_kept k fun b hb => hs b hb.1 hb.2⟩
/-- a reader that has read so much. -/
def srcAt (rows : List Row) (bound : Int) (n : Nat) : Src := ⟨rows, bound, n, rdTime rows bound n, rdLost rows bound n⟩
theorem srcAt_is (rows : List Row) (bound : Int) (n : Nat) : SrcIs rows bound n (srcAt rows bound n) := ⟨rfl, rfl, rfl, rfl, rfl⟩
theorem srcAt_take {rows : List Row} {bound : Int} {n : Nat} (hok : SrcOk rows bound) (hn : n ≤ rows.length + 1) :
    (srcAt rows bound n).take.1 = srcAt rows bound (if rows.length < n then n else n + 1) ∧ (srcAt rows bound n).take.2 = rdTake rows bound n := by
  by_cases h : rows.length < n
  · rw [if_pos h]; exact (srcAt_is rows bound n).stay h
  · rw [if_neg h]
    have := (srcAt_is rows bound n).take hok (by omega)
    exact ⟨this.1.eq, this.2⟩
theorem srcAt_seek {rows : List Row} {bound : Int} {n : Nat} (hok : SrcOk rows bound) (hn : n ≤ rows.length + 1) : srcN rows bound n = srcAt rows bound n := (srcN_is hok n hn).eq
theorem srcAt_zero (rows : List Row) (bound : Int) : (⟨rows, bound, 0, -1, 0⟩ : Src) = srcAt rows bound 0 := (SrcIs.eq (rows := rows) (bound := bound) (n := 0) ⟨rfl, rfl, rfl, by simp [rdTime, rdFold], rfl⟩)

/-- the law's memory. -/
structure SAt (W w : World) (R X C : Nat) (v : Value) (rows : List Row) (bound : Int) (n : Nat) : Prop where
  rd : RdrAt (fun b => b < C) w R (srcAt rows bound n)
  obj : w.heap[X]? = some (.cells #[v, .int .i64 bound, .int .i64 n] 45 (0, 0))
  later : Later W w
  rows : RowsIn (fun b => b < W.heap.size) W v rows
  one : W.heap.size ≤ R
  two : R < C
  three : C ≤ X
section
variable {W w w' : World} {R X C : Nat} {v : Value} {rows : List Row} {bound : Int} {n : Nat}
theorem SAt.more (h : SAt W w R X C v rows bound n) (k : Later w w') : SAt W w' R X C v rows bound n := ⟨h.rd.later k, k.obj h.obj, Later.trans _ _ _ h.later k, h.rows, h.one, h.two, h.three⟩
theorem SAt.lt (h : SAt W w R X C v rows bound n) : X < w.heap.size := (Array.getElem?_eq_some_iff.1 h.obj).1
theorem later_of {S : Nat → Prop} {a b c : World} (h : Later a b) (k : Keeps S b c) (hs : ∀ k, k < a.heap.size → S k) : Later a c :=
  ((h.keeps S).trans k).mono (S' := fun _ => True) (fun k hk _ => hs k hk) |>.later
theorem SAt.rd4 (h : SAt W w R X C v rows bound n) : Rd4 w X v rows bound n :=
  ⟨h.obj, (h.rows.rows_later h.later).rows_mono fun b hb => by have := h.one; have := h.two; have := h.three; omega⟩
theorem SAt.scrib {S : Nat → Nat → Prop} (h : SAt W w R X C v rows bound n) (k : Scrib S w w') (hs : ∀ b o, S b o → W.heap.size ≤ b ∧ b < R) : SAt W w' R X C v rows bound n := by
  have h1 := h.one
  have h2 := h.two
  have h3 := h.three
  have hk := k.keeps
  have key : ∀ b, (b < W.heap.size ∨ R ≤ b) → ∀ o, ¬ S b o := fun b hb o ho => by have := hs b o ho; omega
  exact ⟨h.rd.kept hk (key R (by omega)) (fun b hb _ => key b (by omega)), hk.obj (key X (by omega)) h.obj, later_of h.later hk (fun b hb => key b (by omega)), h.rows, h1, h2, h3⟩
theorem SAt.seek (h : SAt W w R X C v rows bound n) {m : Nat} (hr : RdrAt (fun b => b < C) w' R (srcAt rows bound m)) (k : Keeps (fun b => b ≠ R) w w') : SAt W (w'.setCell ⟨X, 2, none⟩ (.int .i64 m)) R X C v rows bound m := by
  have h1 := h.one
  have h2 := h.two
  have h3 := h.three
  have hk : Keeps (fun b => b ≠ X) w' (w'.setCell ⟨X, 2, none⟩ (.int .i64 m)) := (Keeps.refl _ _).setCell (.inl (by simp)) _
  refine ⟨hr.kept hk (by omega) (fun b _ hb => by omega), ?_, later_of (later_of h.later k (fun k hk => by omega)) hk (fun k hk => by omega), h.rows, h1, h2, h3⟩
  exact obj_setCell (i := 2) (k.obj (b := X) (by omega) h.obj) _
end

/-- rows of one's own, by their cells. -/
theorem rows_cells {B : Nat} {w : World} {sv : Value} {rs : List Row} (h : RowsOwnF B w sv rs) : ∃ a c ob, sv = .slice a rs.length c ∧ (∀ k, ob = some k → B ≤ k ∧ k < w.heap.size) ∧ ∀ i (hi : i < rs.length), ∃ b vv, a = some ⟨b, 0, none⟩ ∧ ob = some b ∧ (∀ j, w.frozen? ⟨b, j, none⟩ = false) ∧
    w.cell? ⟨b, i * 2, none⟩ = some (.int .i64 rs[i].time) ∧ w.cell? ⟨b, i * 2 + 1, none⟩ = some vv ∧ ValsOwn (fun b => B ≤ b ∧ b < w.heap.size ∧ some b ≠ ob) w vv rs[i].vals := by
  obtain ⟨vs, hl, ho, hvs⟩ := h
  have hlt := fun k hk => ho.lt k hk
  obtain ⟨hn, hv⟩ := ho
  rcases hv with ⟨rfl, h0⟩ | ⟨g, cap, cur, rfl, hb, hg, hle, hm, hc, ht⟩
  · exact ⟨none, 0, none, by rw [h0], fun k hk => (by cases hk), fun i hi => (by omega)⟩
  · refine ⟨_, cap, some g, rfl, fun k hk => hlt k hk, fun i hi => ⟨g, vs[i]'(by omega), rfl, rfl, fun j => free_obj hg, ?_⟩⟩
    have cell : ∀ j u, (rowCells rs vs)[j]? = some u → w.cell? ⟨g, j, none⟩ = some u := fun j u hu => by
      refine cell_obj hg ?_
      rw [← ht, List.getElem?_take] at hu
      split at hu
      · simpa using hu
      · cases hu
    obtain ⟨h1, h2⟩ := rowCells_get rs vs hl i hi
    exact ⟨cell _ _ h1, cell _ _ h2, (hvs i hi).o_lt.o_mono fun b hb => ⟨hb.1.1, hb.2, hb.1.2⟩⟩

set_option maxRecDepth 100000 in
set_option maxHeartbeats 8000000 in
theorem src_walk (rows : List Row) (bound : Int) (l : List Op4) (v u : Value) (w : World) (hld : Laid w) (hv : IsRows w v rows) (hu : IsOps4 w u l) (hrl : rows.length * 32 ≤ 140737488351232) (hg : ∀ x ∈ rows, x.vals.length * 32 ≤ 140737488355328)
    (hgl : ∀ x ∈ l, (Lit.int .i64 x.a).wf = true) : Calls Tryd.prog 3 #[v, .int .i64 bound, u] w fun e w' => e = .returned (.bool true) ∧ Later w w' := by
  have HLD := hid hld
  have HG := hid hg
  have HGL := hid hgl
  have HV := hid (show RowsIn (fun b => b < w.heap.size) w v rows from (rows_lt hv).rows_mono fun b hb => hb.2)
  have HIV := hid hv
  obtain ⟨p, c, rfl, hac, hcm, -, -⟩ := hv
  obtain ⟨pu, cu, rfl, hacu, hcmu, -, heu⟩ := hu
  have HU := hid heu
  unfold maxLen at hcmu
  clear heu hld hg hgl hac hcm
  go_enter Tryd.func3, Tryd.ntmps3
  go_wp2_with fail
  refine (copied_rows rows _ _ HIV.out hrl HG.out).mono ?_
  rintro e w1 ⟨sv, rfl, hO1, hL1⟩
  have HL1 := hid hL1
  have hI1 : IsRows w1 sv rows := hO1.own.rows.rows_mono fun _ _ => trivial
  have HI1 := hid hI1
  obtain ⟨ga, gc, ob, rfl, hob, hcel⟩ := rows_cells hO1
  have HOB := hid hob
  have HC := hid hcel
  have hrm : rows.length ≤ 4398046511104 := by omega
  clear hO1 hL1 hI1 hob hcel
  cases hN : newErr rows bound with
  | some cc =>
    have HN := hid hN
    have hcc : cc = 4 ∨ cc = 5 := by
      unfold newErr at hN
      split at hN
      · split at hN
        · split at hN
          · cases hN
          · simp at hN; omega
        · simp at hN; omega
      · simp at hN; omega
    clear hN
    go_wp2_with fail
    refine (new_any rows bound _ _ HI1.out).mono ?_
    intro e w2 hn
    unfold NewTo at hn
    rw [HN.out] at hn
    obtain ⟨rfl, hL2⟩ := hn
    have HL2 := hid (Later.trans _ _ _ HL1.out hL2)
    clear hL2
    go_wp2_with fail
    refine (rd_new rows bound _ _ (HIV.out.rows_later HL2.out)).mono ?_
    intro e w3 hn
    unfold RdNewTo at hn
    rw [HN.out] at hn
    obtain ⟨rfl, hL3⟩ := hn
    have HL3 := hid (Later.trans _ _ _ HL2.out hL3)
    clear hL3
    go_wp2_with fail
    refine (told_errno cc _ (HLD.out.later HL3.out)).mono ?_
    rintro e w4 ⟨rfl, hL4⟩
    have HL4 := hid (Later.trans _ _ _ HL3.out hL4)
    clear hL4
    have hc0 : (cc != 0) = true := by simp; omega
    go_wp2_with fail
    go_ret
    exact ⟨rfl, HL4.out⟩
  | none =>
    have HN := hid hN
    have HOK : Hid (SrcOk rows bound) := hid (by
      unfold newErr at hN
      split at hN
      · split at hN
        · rename_i h1 h2
          split at hN
          · rename_i h3; exact ⟨h1, h3, h2.1, h2.2⟩
          · cases hN
        · cases hN
      · cases hN)
    clear hN
    go_wp2_with fail
    refine (new_any rows bound _ _ HI1.out).mono ?_
    intro e w2 hn
    unfold NewTo at hn
    rw [HN.out] at hn
    obtain ⟨R, rfl, hR1, hrd, hL2⟩ := hn
    have HRD := hid hrd
    have HR1 := hid hR1
    have HL2 := hid (Later.trans _ _ _ HL1.out hL2)
    have HM2 := hid hL2
    have HRC : Hid (R < w2.heap.size) := hid (by obtain ⟨sv, h, -⟩ := hrd; exact (Array.getElem?_eq_some_iff.1 h).1)
    clear hL2 hrd hR1
    go_wp2_with fail
    refine (rd_new rows bound _ _ (HIV.out.rows_later HL2.out)).mono ?_
    intro e w3 hn
    unfold RdNewTo at hn
    rw [HN.out] at hn
    obtain ⟨X, rfl, hX, hx, hL3⟩ := hn
    have HX := hid hX
    have HXO := hid hx
    have HL3 := hid (Later.trans _ _ _ HL2.out hL3)
    have HM3 := hid (Later.trans _ _ _ HM2.out hL3)
    have HRD3 := hid (HRD.out.later hL3)
    clear hL3 hX hx HRD
    go_wp2_with fail
    refine (told_nil _).mono ?_
    rintro e w4 ⟨rfl, hL4⟩
    have HS4 : Hid (SAt w w4 R X w2.heap.size _ rows bound 0) := hid ⟨by rw [← srcAt_zero]; exact HRD3.out.later hL4, hL4.obj HXO.out, Later.trans _ _ _ HL3.out hL4, HV.out, Nat.le_trans HL1.out.size HR1.out, HRC.out, HX.out⟩
    have HM4 := hid (Later.trans _ _ _ HM3.out hL4)
    have HRR : Hid (w1.heap.size ≤ R) := HR1
    clear hL4 HRD3 HXO HL3 HM3 HL2 HM2 HX HR1 HRC
    have hn100 := HOK.out.len
    go_wp2_with fail
    obtain ⟨R1, hR1⟩ : ∃ RR_ : (Nat → Value) → World → Prop, RR_ = (fun us wx => ∃ i : Nat, i ≤ rows.length ∧ us 13 = .int .i64 i ∧ Scrib (fun b o => w.heap.size ≤ b ∧ b < w1.heap.size ∧ (some b = ob → o % 2 = 0)) w4 wx) := ⟨_, rfl⟩
    obtain ⟨mu1, hmu1⟩ : ∃ mu : (Nat → Value) → World → Nat, mu = (fun us _ => rows.length - (intOf (us 13)).toNat) := ⟨_, rfl⟩
    have HR1 := hid hR1; have Hmu1 := hid hmu1; clear hR1 hmu1
    refine wp_loop_frame' [false, false, false, false, false, false, false, false, false, false, false, false, false, true, true, false, false, false, false, false, false, false, false, false, false, false, false, false, false, false, false, false, false, false, false, false, false, false, false, false, false, false, false, false, false, false, false, false, false, false, false, false, false, false, false, false, true, true, true, true, true, true, true, true, true, true, true, true, true, true, true, true, true, true, true, true, true, true, true, true, true, true, true, true] R1 _ mu1 HR1.out ?_ ?_
    · exact ⟨0, by omega, rfl, Scrib.refl _ _⟩
    intro us1 wx hrel
    obtain ⟨i, hi, h13, hsc⟩ := hrel
    simp only [frameOf, Nat.reduceAdd, h13]
    have Hh13 := hid h13; clear h13
    have HSC := hid hsc
    clear hsc
    by_cases hlt : i < rows.length
    · obtain ⟨b, vv, rfl, hb, hz, q0, q1, hvv⟩ := HC.out i hlt
      have HOBB := hid (HOB.out b hb)
      have HB := hid hb
      have hb4 : b < w4.heap.size := Nat.lt_of_lt_of_le HOBB.out.2 HM4.out.size
      have HVV := hid (hvv.o_later HM4.out)
      have HQ1 := hid (HM4.out.cell q1)
      have hz4 : w4.frozen? ⟨b, i * 2, none⟩ = false := by rw [HM4.out.frozens b _ HOBB.out.2]; exact hz _
      have z0 := HSC.out.free b (i * 2) hb4 hz4
      obtain ⟨u0, r0⟩ := HSC.out.there (HM4.out.cell q0)
      have r1 := HSC.out.same HQ1.out (fun h => by have := h.2.2 HB.out.symm; omega)
      obtain ⟨va, vc, rfl, hv2⟩ := hvv
      have hvm : rows[i].vals.length ≤ 9223372036854775807 := by
        obtain ⟨h1, h2, -⟩ := hv2
        unfold maxLen at h2
        omega
      have hii : (0 : Int) ≤ i := by omega
      generalize rows[i] = x at *
      clear hb hz q0 q1 hv2 hz4 hb4
      go_upto_region 13 with (fail)
      have HSC1 := hid (HSC.out.set (b := b) (o := i * 2) ⟨HOBB.out.1, HOBB.out.2, fun _ => by omega⟩ (.int .i64 77))
      generalize wx.setCell ⟨b, i * 2, none⟩ (.int .i64 77) = wy0 at *
      clear r0 r1 z0 HSC
      go_wp2_with fail
      obtain ⟨R2, hR2⟩ : ∃ RR_ : (Nat → Value) → World → Prop, RR_ = (fun us wy => ∃ k : Nat, k ≤ x.vals.length ∧ us 14 = .int .i64 k ∧ Scrib (fun b o => w.heap.size ≤ b ∧ b < w1.heap.size ∧ (some b = ob → o % 2 = 0)) w4 wy) := ⟨_, rfl⟩
      obtain ⟨mu2, hmu2⟩ : ∃ mu : (Nat → Value) → World → Nat, mu = (fun us _ => x.vals.length - (intOf (us 14)).toNat) := ⟨_, rfl⟩
      have HR2 := hid hR2; have Hmu2 := hid hmu2; clear hR2 hmu2
      refine wp_loop_frame' [false, false, false, false, false, false, false, false, false, false, false, false, false, false, true, false, false, false, false, false, false, false, false, false, false, false, false, false, false, false, false, false, false, false, false, false, false, false, false, false, false, false, false, false, false, false, false, false, false, false, false, false, false, false, false, false, false, false, false, false, false, false, false, false, false, false, true, true, true, true, true, true, true, true, true, true, true, true, true, true, true, true, true, true] R2 _ mu2 HR2.out ?_ ?_
      · exact ⟨0, by omega, rfl, HSC1.out⟩
      intro us2 wy hrel
      obtain ⟨k, hk, h14, hsc⟩ := hrel
      simp only [frameOf, Nat.reduceAdd, h14]
      have Hh14 := hid h14; clear h14
      have r1 := hsc.same HQ1.out (fun h => by have := h.2.2 HB.out.symm; omega)
      have HSC2 := hid hsc
      clear hsc
      by_cases hlt2 : k < x.vals.length
      · obtain ⟨a9, c9, e9, -, -, -, hel⟩ := HVV.out
        simp only [Value.slice.injEq, true_and] at e9
        obtain ⟨rfl, rfl⟩ := e9
        obtain ⟨bp, op, rfl, hbp, ⟨v0, v1, v2⟩, cs, hcs⟩ := hel k hlt2
        obtain ⟨u0, r00⟩ := HSC2.out.there v0
        obtain ⟨u1, r01⟩ := HSC2.out.there v1
        obtain ⟨u2, r02⟩ := HSC2.out.there v2
        have hbl : bp < w4.heap.size := (Array.getElem?_eq_some_iff.1 hcs).1
        have z0 := HSC2.out.free bp (op + k * 3) hbl (free_obj hcs)
        have z1 := HSC2.out.free bp (op + k * 3 + 1) hbl (free_obj hcs)
        have z2 := HSC2.out.free bp (op + k * 3 + 2) hbl (free_obj hcs)
        have HBP : Hid (∀ o : Nat, w.heap.size ≤ bp ∧ bp < w1.heap.size ∧ (some bp = ob → o % 2 = 0)) := hid fun o => ⟨hbp.1, hbp.2.1, fun h => absurd h hbp.2.2⟩
        have hkk : (0 : Int) ≤ k := by omega
        clear hel v0 v1 v2 hcs hbp
        go_wp2_with fail
        refine Round.mk' HR2.out Hmu2.out rfl ?_ ?_
        · exact ⟨k + 1, by omega, by go_num, ((HSC2.out.set (HBP.out _) _).set (HBP.out _) _).set (HBP.out _) _⟩
        · rw [Hh14.out]; simp [intOf, slots]; omega
      · go_wp2_with fail
        refine Round.mk' HR1.out Hmu1.out rfl ?_ ?_
        · exact ⟨i + 1, by omega, by go_num, HSC2.out⟩
        · rw [Hh13.out]; simp [intOf, slots]; omega
    have HSX := hid (HS4.out.scrib HSC.out (fun b o h => by have := HRR.out; omega))
    clear HSC HS4 HM4 HC HOB HI1 HL1
    go_wp2_with fail
    obtain ⟨R3, hR3⟩ : ∃ RR_ : (Nat → Value) → World → Prop, RR_ = (fun us wx => ∃ j n : Nat, j ≤ l.length ∧ us 15 = .int .i64 j ∧ n ≤ rows.length + 1 ∧ SAt w wx R X w2.heap.size (.slice p rows.length c) rows bound n) := ⟨_, rfl⟩
    obtain ⟨mu3, hmu3⟩ : ∃ mu : (Nat → Value) → World → Nat, mu = (fun us _ => l.length - (intOf (us 15)).toNat) := ⟨_, rfl⟩
    have HR3 := hid hR3; have Hmu3 := hid hmu3; clear hR3 hmu3
    refine wp_loop_frame' [false, false, false, false, false, false, true, false, false, false, false, false, false, false, false, true, true, true, true, true, true, true, true, true, true, true, true, true, false, false, false, false, false, false, false, false, false, false, false, false, false, false, false, false, false, false, false, false, false, false, false, false, false, false, false, false, false, false, false, false, false, false, false, false, false, false, false, false, false, false, false, false, false, false, false, false, false, false, false, false, false, false, false, false, true, true, true, true, true, true, true, true, true, true, true, true, true, true, true, true, true, true, true, true, true, true, true, true, true, true, true, true, true, true, true, true, true, true, true, true, true, true, true, true, true, true, true, true, true, true, true, true, true, true, true, true, true, true, true, true, true, true, true, true, true, true, true, true, true, true, true, true, true, true, true, true, true, true, true, true, true, true, true, true, true, true, true, true, true, true, true, true, true, true, true] R3 _ mu3 HR3.out ?_ ?_
    · exact ⟨0, 0, by omega, rfl, by omega, HSX.out⟩
    clear HSX
    intro us3 wz hrel
    obtain ⟨j, n, hj, h15, hn, hS⟩ := hrel
    simp only [frameOf, Nat.reduceAdd, h15]
    have Hh15 := hid h15; clear h15
    have HS := hid hS
    clear hS
    by_cases hltj : j < l.length
    · obtain ⟨b, o, rfl, -, q0, q1⟩ := HU.out j hltj
      have hwa := HGL.out _ (List.getElem_mem hltj)
      generalize l[j] = x at *
      obtain ⟨xk, xa⟩ := x
      simp only at hwa q0 q1
      replace q0 := HS.out.later.cell q0
      replace q1 := HS.out.later.cell q1
      have hjj : (0 : Int) ≤ j := by omega
      go_upto_region 21 with (fail)
      have HS1 := hid (HS.out.more (Later.alloc wz (.cells #[.int .i64 xk, .int .i64 xa] 42)))
      have hO := obj_new wz (.cells #[.int .i64 xk, .int .i64 xa] 42)
      have HO := hid hO
      have x0 := cell_obj (i := 0) hO rfl
      have x1 := cell_obj (i := 1) hO rfl
      obtain ⟨O, hOO⟩ : ∃ O, O = wz.heap.size := ⟨_, rfl⟩
      rw [← hOO] at HO hO x0 x1
      rw [← hOO]
      have HOO : Hid (R < O ∧ X < O) := hid (by have := HS.out.lt; have := HS.out.two; have := HS.out.three; omega)
      generalize wz.alloc (.cells #[.int .i64 xk, .int .i64 xa] 42) = wa at *
      clear hO hOO q0 q1 HS
      go_upto_if 96 with (fail)
      obtain ⟨R4, hR4⟩ : ∃ RR_ : (Nat → Value) → World → Prop, RR_ = (fun us wb => ∃ m : Nat, m ≤ rows.length + 1 ∧ SAt w wb R X w2.heap.size (.slice p rows.length c) rows bound m) := ⟨_, rfl⟩
      have HR4 := hid hR4; clear hR4
      refine wp_cut_frame' [false, false, false, false, false, false, false, false, false, false, false, false, false, false, false, false, false, true, true, true, true, true, false, false, false, false, false, false, false, false, false, false, false, false, false, false, false, false, false, false, false, false, false, false, false, false, false, false, false, false, false, false, false, false, false, false, false, false, false, false, false, false, false, false, false, false, false, false, false, false, false, false, false, false, false, false, false, false, false, false, false, false, false, false, false, false, false, false, false, false, false, false, false, false, false, false, true, true, true, true, true, true, true, true, true, true, true, true, true, true, true, true, true, true, true, true, true, true, true, true, true, true, true, true, true, true, true, true, true, true, true, true] R4 _ HR4.out ?_ ?_
      · by_cases hk1 : xk = 1
        · subst hk1
          by_cases hr : xa < 0 ∨ (rows.length : Int) + 1 < xa
          · go_wp2_with fail
            refine (seek_any R (srcAt rows bound n) rows bound xa _ HS1.out.rd rfl rfl HOK.out).mono ?_
            intro e wb hk
            unfold SeekTo at hk
            rw [if_pos hr] at hk
            obtain ⟨rfl, rfl⟩ := hk
            go_wp2_with fail
            refine (told_errno 4 _ (HLD.out.later HS1.out.later)).mono ?_
            rintro e wc ⟨rfl, hLc⟩
            replace x1 := hLc.cell x1
            have HSC := hid (HS1.out.more hLc)
            clear hLc x0
            by_cases h1 : xa < 0
            · go_wp2_with fail
              refine Round.mk' HR3.out Hmu3.out rfl ?_ ?_
              · exact ⟨j + 1, n, by omega, by go_num, hn, HSC.out⟩
              · rw [Hh15.out]; simp [intOf, slots]; omega
            · have h2 : (rows.length : Int) + 1 < xa := by omega
              go_wp2_with fail
              refine Round.mk' HR3.out Hmu3.out rfl ?_ ?_
              · exact ⟨j + 1, n, by omega, by go_num, hn, HSC.out⟩
              · rw [Hh15.out]; simp [intOf, slots]; omega
          · obtain ⟨m, rfl⟩ := Int.eq_ofNat_of_zero_le (show 0 ≤ xa by omega)
            have hm : m ≤ rows.length + 1 := by omega
            go_wp2_with fail
            refine (seek_any R (srcAt rows bound n) rows bound m _ HS1.out.rd rfl rfl HOK.out).mono ?_
            intro e wb hk
            unfold SeekTo at hk
            rw [if_neg hr] at hk
            obtain ⟨rfl, hrb, hkb⟩ := hk
            rw [Int.toNat_natCast, srcAt_seek HOK.out hm] at hrb
            have HRB := hid hrb
            have HKB := hid hkb
            clear hrb hkb x0 x1
            go_wp2_with fail
            refine (told_nil _).mono ?_
            rintro e wc ⟨rfl, hLc⟩
            have hkc := HKB.out.more hLc
            have x1 := cell_obj (i := 1) (hkc.obj (b := O) (by have := HOO.out; omega) HO.out) rfl
            have hXo := hkc.obj (b := X) (by have := HS1.out.two; have := HS1.out.three; omega) HS1.out.obj
            have y2 := cell_obj (i := 2) hXo rfl
            have z2 := free_obj (i := 2) hXo
            have HSS := hid (HS1.out.seek (HRB.out.later hLc) hkc)
            clear hLc hkc hXo
            go_upto_region 28 with (fail)
            generalize wc.setCell ⟨X, 2, none⟩ (.int .i64 m) = wd at *
            clear x1 y2 z2
            go_wp2_with fail
            refine Meet.mk' HR4.out rfl ?_
            exact ⟨m, hm, HSS.out⟩
        · go_wp2_with fail
          refine (take_any R (srcAt rows bound n) _ HS1.out.rd ((srcAt_is rows bound n).ok HOK.out hn)).mono ?_
          intro e wb hT
          obtain ⟨hT1, hT2⟩ := srcAt_take HOK.out hn
          rw [hT1, hT2] at hT
          obtain ⟨v2, rfl, hrb, heb, hkb⟩ := hT
          have HRB := hid hrb
          have HKB := hid hkb
          have HFB := hid (flow_in heb)
          have hS1a := HS1.out.one
          have hS1b := HS1.out.two
          have hS1c := HS1.out.three
          have hXl := HS1.out.lt
          have HXB : Hid (Rd4 wb X (.slice p rows.length c) rows bound n) := hid ⟨hkb.obj (b := X) (by omega) HS1.out.obj, (HV.out.rows_later (later_of HS1.out.later hkb fun k hk => by omega)).rows_mono fun b hb => by omega⟩
          have HLB : Hid (Later w wb) := hid (later_of HS1.out.later hkb fun k hk => by omega)
          clear hrb hkb heb hT1 hT2 x0 x1
          go_wp2_with fail
          refine (rd_take X _ rows bound n _ HXB.out HOK.out hn).mono ?_
          rintro e wc ⟨u2, rfl, hXc, hec, hkc⟩
          have HFC := hid (HFB.out.kept hkc fun b hb _ => by omega)
          have hBC : wb.heap.size ≤ wc.heap.size := hkc.size
          have HEC := hid hec.elems
          have HKC := hid hkc
          have HXC := hid hXc
          have HSH := hid (rdTake_short (rows := rows) (bound := bound) n)
          clear hXc hec hkc
          go_wp2_with fail
          refine (flows_any _ _ _ _ (rdTake rows bound n) _ HFC.out HEC.out HSH.out.2 hBC).mono ?_
          rintro e wd ⟨rfl, hkd⟩
          have hab : wa.heap.size ≤ wb.heap.size := HKB.out.size
          have HSD : Hid (SAt w wd R X w2.heap.size (.slice p rows.length c) rows bound (if rows.length < n then n else n + 1)) := hid
            ⟨(HRB.out.kept HKC.out (by omega) (fun b _ hb => by omega)).kept hkd (by omega) (fun b _ hb => by omega), hkd.obj (b := X) (by omega) HXC.out, later_of (later_of HLB.out HKC.out fun k hk => by omega) hkd (fun k hk => by omega), HV.out, hS1a, hS1b, hS1c⟩
          clear hkd HKC HXC HFC HEC HRB HKB
          go_wp2_with fail
          refine Meet.mk' HR4.out rfl ?_
          exact ⟨_, by split <;> omega, HSD.out⟩
      clear HS1 HO HOO x0 x1
      intro us4 wb hrel
      obtain ⟨m, hm, hS⟩ := hrel
      simp only [frameOf, Nat.reduceAdd]
      have HS := hid hS
      clear hS
      go_wp2_with fail
      refine (at_any R (srcAt rows bound m) _ HS.out.rd).mono ?_
      rintro e wc ⟨rfl, rfl⟩
      go_wp2_with fail
      refine (rdtime_any R (srcAt rows bound m) _ HS.out.rd).mono ?_
      rintro e wc ⟨rfl, rfl⟩
      go_wp2_with fail
      refine (late_any R (srcAt rows bound m) _ HS.out.rd).mono ?_
      rintro e wc ⟨rfl, rfl⟩
      go_wp2_with fail
      refine (ended_any R (srcAt rows bound m) _ HS.out.rd HOK.out.len (by show m ≤ 101; omega)).mono ?_
      rintro e wc ⟨rfl, hLc⟩
      rw [show decide ((srcAt rows bound m).rows.length < (srcAt rows bound m).at_) = decide ((rows.length : Int) < (m : Int)) from decide_eq_decide.2 (by simp only [srcAt]; omega)]
      have HSc := hid (HS.out.more hLc)
      clear HS hLc
      have y2 := cell_obj (i := 2) HSc.out.obj rfl
      go_wp2_with fail
      refine (rd_time X _ rows bound m m _ HSc.out.rd4 HOK.out (by omega)).mono ?_
      rintro e wd ⟨rfl, hLd⟩
      have HSd := hid (HSc.out.more hLd)
      replace y2 := hLd.cell y2
      clear HSc hLd
      go_wp2_with fail
      refine (rd_lost X _ rows bound m _ HSd.out.rd4 HOK.out hm).mono ?_
      rintro e we ⟨rfl, hLe⟩
      have HSe := hid (HSd.out.more hLe)
      replace y2 := hLe.cell y2
      clear HSd hLe
      go_wp2_with fail
      refine Round.mk' HR3.out Hmu3.out rfl ?_ ?_
      · exact ⟨j + 1, m, by omega, by go_num, hm, HSe.out⟩
      · rw [Hh15.out]; simp [intOf, slots]; omega
    · go_wp2_with fail
      go_ret
      exact ⟨rfl, HS.out.later⟩
end Go.Proofs.YthfgjmdmcoogpaaDoor
