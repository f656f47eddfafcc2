/-
  PROVED HERE: the contract of the law's flows: two equal lists of elements, of which the first one's lists are written over.
-/
import Derived.Test.YthfgjmdmcoogpaaDoorRdNew
namespace Go.Proofs.YthfgjmdmcoogpaaDoor
set_option linter.unusedSimpArgs false
set_option linter.unusedVariables false
open Go.RowKit

/-- elements of one's own, made between two times. -/
def FlowIn (B B2 : Nat) (w : World) (v : Value) (es : List Elem) : Prop :=
  ∃ vs : List Value, ∃ hl : vs.length = es.length, w.ownsRow B 61 5 v es.length (elemCells es vs) ∧ (∀ i (h : i < es.length), ValsOwn (fun b => B ≤ b ∧ b < B2 ∧ some b ≠ v.ownBlock) w (vs[i]'(by omega)) es[i].row.vals) ∧ ∀ k, v.ownBlock = some k → B ≤ k ∧ k < B2
theorem flow_in {B : Nat} {w : World} {v : Value} {es : List Elem} (h : ElemsOwn B w v es) : FlowIn B w.heap.size w v es := by
  obtain ⟨vs, hl, ho, hv⟩ := h
  exact ⟨vs, hl, ho, fun i hi => (hv i hi).o_lt.o_mono fun b hb => ⟨hb.1.1, hb.2, hb.1.2⟩, fun k hk => ho.lt k hk⟩
theorem FlowIn.kept {B B2 : Nat} {S : Nat → Prop} {w w' : World} {v : Value} {es : List Elem} (h : FlowIn B B2 w v es) (k : Keeps S w w') (hs : ∀ b, B ≤ b → b < B2 → S b) : FlowIn B B2 w' v es := by
  obtain ⟨vs, hl, ho, hv, hk⟩ := h
  exact ⟨vs, hl, ⟨ho.1, ho.2.imp id fun ⟨g, c, cur, h1, h2, h3, h4⟩ => ⟨g, c, cur, h1, h2, k.obj (hs _ h2 (hk g (by rw [h1]; rfl)).2) h3, h4⟩⟩, fun i hi => (hv i hi).o_kept k fun b hb => hs b hb.1 hb.2.1, hk⟩
theorem flow_slice {B B2 : Nat} {w : World} {v : Value} {es : List Elem} (h : FlowIn B B2 w v es) : ∃ a c, v = .slice a es.length c ∧ es.length ≤ maxLen ∧ ∀ i (hi : i < es.length), ∃ b o vv, a = some ⟨b, o, none⟩ ∧ v.ownBlock = some b ∧
    w.cell? ⟨b, o + i * 5, none⟩ = some (.int .i64 es[i].kind) ∧ w.cell? ⟨b, o + i * 5 + 1, none⟩ = some (.int .i64 es[i].row.time) ∧ w.cell? ⟨b, o + i * 5 + 2, none⟩ = some vv ∧ w.cell? ⟨b, o + i * 5 + 3, none⟩ = some (.int .i64 es[i].time) ∧
    w.cell? ⟨b, o + i * 5 + 4, none⟩ = some (.int .i64 es[i].mark) ∧ ValsOwn (fun b => B ≤ b ∧ b < B2 ∧ some b ≠ v.ownBlock) w vv es[i].row.vals := by
  obtain ⟨vs, hl, ⟨hn, hv⟩, hvs, -⟩ := h
  rcases hv with ⟨rfl, h0⟩ | ⟨g, cap, cur, rfl, hb, hg, hle, hm, hc, ht⟩
  · exact ⟨none, 0, by rw [h0], by unfold maxLen; omega, fun i hi => by omega⟩
  · refine ⟨_, cap, rfl, by omega, fun i hi => ⟨g, 0, vs[i]'(by omega), rfl, rfl, ?_⟩⟩
    have cell : ∀ j u, (elemCells es vs)[j]? = some u → w.cell? ⟨g, j, none⟩ = some u := fun j u hu => by
      refine cell_obj hg ?_
      rw [← ht, List.getElem?_take] at hu
      split at hu
      · simpa using hu
      · cases hu
    have hc := elemCells_get es vs hl i hi
    simp only [Nat.zero_add]
    exact ⟨cell _ _ (hc 0 (by omega)), cell _ _ (hc 1 (by omega)), cell _ _ (hc 2 (by omega)), cell _ _ (hc 3 (by omega)), cell _ _ (hc 4 (by omega)), hvs i hi⟩
theorem valsO_empty {S S' : Nat → Prop} {w w' : World} {v : Value} {l : List Val} (h : ValsOwn S w v l) (h0 : l = []) : ValsOwn S' w' v l := by
  subst h0
  obtain ⟨a, c, h1, h2, h3, h4, -⟩ := h
  exact ⟨a, c, h1, h2, h3, h4, fun i hi => by cases hi⟩
def FlowsTo (B B2 : Nat) (w : World) (e : Ending) (w' : World) : Prop := e = .returned (.bool true) ∧ Keeps (fun b => b < B ∨ B2 ≤ b) w w'

set_option maxRecDepth 100000 in
set_option maxHeartbeats 4000000 in
theorem flows_any (B B2 : Nat) (v u : Value) (es : List Elem) (w : World) (hF : FlowIn B B2 w v es) (hu : ElemsIn (fun b => B2 ≤ b) w u es) (hs : ∀ i (h : i < es.length), i ≠ 0 → es[i].row.vals = []) (hB2 : B2 ≤ w.heap.size) :
    Calls Tryd.prog 19 #[v, u] w (FlowsTo B B2 w) := by
  obtain ⟨ga, gc, hv, hlm, hgot⟩ := flow_slice hF
  obtain ⟨ob, hob⟩ : ∃ ob, ob = v.ownBlock := ⟨_, rfl⟩
  rw [← hob] at hgot
  have HOB : Hid (∀ k, ob = some k → B ≤ k ∧ k < B2) := hid fun k hk => hF.choose_spec.choose_spec.2.2 k (by rw [← hob]; exact hk)
  subst hv
  obtain ⟨gb, gd, rfl, -, -, -, hwant⟩ := hu
  have HG := hid hgot
  have HW := hid hwant
  have HS := hid hs
  unfold maxLen at hlm
  clear hgot hwant hs hF hob
  go_enter Tryd.func19, Tryd.ntmps19
  go_wp2_with fail
  obtain ⟨R1, hR1⟩ : ∃ RR_ : (Nat → Value) → World → Prop, RR_ = (fun us wx => ∃ i : Nat, i ≤ es.length ∧ us 5 = .int .i64 i ∧ Keeps (fun b => b < B ∨ B2 ≤ b ∨ some b = ob) w wx ∧ (i = 0 → Later w wx)) := ⟨_, rfl⟩
  obtain ⟨mu1, hmu1⟩ : ∃ mu : (Nat → Value) → World → Nat, mu = (fun us _ => es.length - (intOf (us 5)).toNat) := ⟨_, rfl⟩
  have HR1 := hid hR1; have Hmu1 := hid hmu1; clear hR1 hmu1
  refine wp_loop_frame' [false, false, false, false, true, true, true, true, true, true, false, false, false, false, false, true, true, true, true, true, true, true, true, true, true, true, true, true, true, true, true, true, true, true, true, true, true, true, true, true, true, true, true, true, true, true, true, true, true, true, true, true, true, true, true, true, true, true, true, true, true, true, true, true, true, true, true, true, true, true, true, true, true, true, true, true, true, true, true, true, true, true, true, true, true] R1 _ mu1 HR1.out ?_ ?_
  · exact ⟨0, by omega, rfl, Keeps.refl _ _, fun _ => Later.refl _⟩
  intro us1 wx hrel
  obtain ⟨i, hi, h5, hkx, hlx⟩ := hrel
  simp only [frameOf, Nat.reduceAdd, h5]
  have Hh5 := hid h5; clear h5
  have HKX := hid hkx
  by_cases hlt : i < es.length
  · obtain ⟨b1, o1, vv, rfl, hb1, q0, q1, q2, q3, q4, hvv⟩ := HG.out i hlt
    obtain ⟨b2, o2, rfl, hb2, p0, p1, ⟨uu, p2, huu⟩, p3, p4⟩ := HW.out i hlt
    have HUX := hid (SliceOf.vals_kept huu hkx (fun b hb => .inr (.inl hb)))
    have HVX : Hid (ValsOwn (fun b => B ≤ b ∧ b < B2 ∧ some b ≠ ob) wx vv es[i].row.vals) := hid (by
      by_cases h0 : i = 0
      · exact hvv.o_later (hlx h0)
      · exact valsO_empty hvv (HS.out i hlt h0))
    generalize es[i] = x at *
    replace q0 := hkx.cell (.inr (.inr hb1.symm)) q0
    replace q1 := hkx.cell (.inr (.inr hb1.symm)) q1
    replace q2 := hkx.cell (.inr (.inr hb1.symm)) q2
    replace q3 := hkx.cell (.inr (.inr hb1.symm)) q3
    replace q4 := hkx.cell (.inr (.inr hb1.symm)) q4
    replace p0 := hkx.cell (.inr (.inl hb2)) p0
    replace p1 := hkx.cell (.inr (.inl hb2)) p1
    replace p2 := hkx.cell (.inr (.inl hb2)) p2
    replace p3 := hkx.cell (.inr (.inl hb2)) p3
    replace p4 := hkx.cell (.inr (.inl hb2)) p4
    obtain ⟨va, vc, rfl, -⟩ := HVX.out
    obtain ⟨ua, uc, rfl, -⟩ := HUX.out
    have hii : (0 : Int) ≤ i := by omega
    have HB1 := hid hb1
    clear hkx hlx hvv huu hb1
    go_upto_region 7 with (fail)
    replace p0 := (Later.alloc wx (.cells #[.int .i64 x.kind, .int .i64 x.row.time, .slice va x.row.vals.length vc, .int .i64 x.time, .int .i64 x.mark] 61)).cell p0
    replace p1 := (Later.alloc wx (.cells #[.int .i64 x.kind, .int .i64 x.row.time, .slice va x.row.vals.length vc, .int .i64 x.time, .int .i64 x.mark] 61)).cell p1
    replace p2 := (Later.alloc wx (.cells #[.int .i64 x.kind, .int .i64 x.row.time, .slice va x.row.vals.length vc, .int .i64 x.time, .int .i64 x.mark] 61)).cell p2
    replace p3 := (Later.alloc wx (.cells #[.int .i64 x.kind, .int .i64 x.row.time, .slice va x.row.vals.length vc, .int .i64 x.time, .int .i64 x.mark] 61)).cell p3
    replace p4 := (Later.alloc wx (.cells #[.int .i64 x.kind, .int .i64 x.row.time, .slice va x.row.vals.length vc, .int .i64 x.time, .int .i64 x.mark] 61)).cell p4
    go_wp2_with fail
    refine (same_vals x.row.vals x.row.vals _ _ _ (((HVX.out.vals.vals_mono fun _ _ => trivial).later (Later.alloc _ _)).later (Later.alloc _ _)) (((HUX.out.vals_mono fun _ _ => trivial).later (Later.alloc _ _)).later (Later.alloc _ _))).mono ?_
    rintro e w3 ⟨rfl, hL3⟩
    rw [sameV_refl]
    have hX := hL3.obj ((Later.alloc _ _).obj (obj_new wx _))
    have hY := hL3.obj (obj_new (wx.alloc _) _)
    have HX := hid hX
    have HL3 : Hid (Later wx w3) := hid (Later.of_alloc (Later.of_alloc hL3))
    have x0 := cell_obj (i := 0) hX rfl
    have x1 := cell_obj (i := 1) hX rfl
    have x2 := cell_obj (i := 2) hX rfl
    have x3 := cell_obj (i := 3) hX rfl
    have x4 := cell_obj (i := 4) hX rfl
    have y0 := cell_obj (i := 0) hY rfl
    have y1 := cell_obj (i := 1) hY rfl
    have y3 := cell_obj (i := 3) hY rfl
    have y4 := cell_obj (i := 4) hY rfl
    simp only [World.size_alloc] at y0 y1 y3 y4
    clear hX hY hL3 p0 p1 p2 p3 p4 q0 q1 q3 q4
    go_upto_region 11 with (fail)
    have HV3 := hid (HVX.out.o_later HL3.out)
    have HQ2 := hid (HL3.out.cell q2)
    have HXW : Hid (B2 ≤ wx.heap.size) := hid (Nat.le_trans hB2 HKX.out.size)
    have HX2 := hid x2
    have hvm : x.row.vals.length ≤ 9223372036854775807 := by
      obtain ⟨a, c, h1, h2, h3, -⟩ := HV3.out
      unfold maxLen at h3
      omega
    clear x0 x1 x2 x3 x4 y0 y1 y3 y4 q2 HVX HUX HX
    go_wp2_with fail
    obtain ⟨R2, hR2⟩ : ∃ RR_ : (Nat → Value) → World → Prop, RR_ = (fun us wy => ∃ k : Nat, k ≤ x.row.vals.length ∧ us 9 = .int .i64 k ∧ Scrib (fun b _ => B ≤ b ∧ b < B2 ∧ some b ≠ ob) w3 wy) := ⟨_, rfl⟩
    obtain ⟨mu2, hmu2⟩ : ∃ mu : (Nat → Value) → World → Nat, mu = (fun us _ => x.row.vals.length - (intOf (us 9)).toNat) := ⟨_, rfl⟩
    have HR2 := hid hR2; have Hmu2 := hid hmu2; clear hR2 hmu2
    refine wp_loop_frame' [false, false, false, false, false, false, false, false, false, true, false, false, false, false, false, false, false, false, false, false, false, false, false, false, false, false, false, false, false, false, false, false, false, false, false, false, false, false, false, false, false, false, false, false, false, false, false, false, false, false, false, false, false, false, false, false, false, false, false, false, false, false, false, false, false, false, false, false, true, true, true, true, true, true, true, true, true, true, true, true, true, true, true, true, true] R2 _ mu2 HR2.out ?_ ?_
    · exact ⟨0, by omega, rfl, Scrib.refl _ _⟩
    intro us2 wy hrel
    obtain ⟨k, hk, h9, hsc⟩ := hrel
    simp only [frameOf, Nat.reduceAdd, h9]
    have Hh9 := hid h9; clear h9
    have x2 := hsc.same HX2.out (by have := HXW.out; omega)
    have q2 := hsc.same HQ2.out (fun h => h.2.2 HB1.out.symm)
    have HSC := hid hsc
    clear hsc
    by_cases hlt2 : k < x.row.vals.length
    · obtain ⟨a9, c9, e9, -, -, -, hel⟩ := HV3.out
      simp only [Value.slice.injEq, true_and] at e9
      obtain ⟨rfl, rfl⟩ := e9
      obtain ⟨bp, op, rfl, hbp, ⟨v0, v1, v2⟩, cs, hcs⟩ := hel k hlt2
      obtain ⟨u0, r0⟩ := HSC.out.there v0
      obtain ⟨u1, r1⟩ := HSC.out.there v1
      obtain ⟨u2, r2⟩ := HSC.out.there v2
      have hbl : bp < w3.heap.size := (Array.getElem?_eq_some_iff.1 hcs).1
      have z0 := HSC.out.free bp (op + k * 3) hbl (free_obj hcs)
      have z1 := HSC.out.free bp (op + k * 3 + 1) hbl (free_obj hcs)
      have z2 := HSC.out.free bp (op + k * 3 + 2) hbl (free_obj hcs)
      have HBP := hid hbp
      have hkk : (0 : Int) ≤ k := by omega
      clear hel v0 v1 v2 hcs hbp
      go_wp2_with fail
      refine Round.mk' HR2.out Hmu2.out rfl ?_ ?_
      · exact ⟨k + 1, by omega, by go_num, ((HSC.out.set HBP.out _).set HBP.out _).set HBP.out _⟩
      · rw [Hh9.out]; simp [intOf, slots]; omega
    · go_wp2_with fail
      refine Round.mk' HR1.out Hmu1.out rfl ?_ ?_
      · refine ⟨i + 1, by omega, by go_num, ?_, fun h => by omega⟩
        exact (HKX.out.more HL3.out).trans (HSC.out.keeps.mono fun b _ hb o hS => by
          obtain ⟨h1, h2, h3⟩ := hS
          rcases hb with hb | hb | hb
          · omega
          · omega
          · exact h3 hb)
      · rw [Hh5.out]; simp [intOf, slots]; omega
  · go_wp2_with fail
    go_ret
    exact ⟨rfl, HKX.out.mono fun b _ hb => by rcases hb with hb | hb; exact .inl hb; exact .inr (.inl hb)⟩
end Go.Proofs.YthfgjmdmcoogpaaDoor
