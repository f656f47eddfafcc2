/-
  PROVED HERE: streamwrightlaw7.StateLoads returns true, for every script and every three numbers: the walk.
-/
import Derived.Test.YtgcnchmnciihnaaGreatDoorGOpenOp7
import Derived.Test.YtgcnchmnciihnaaGreatDoorGStSet
import Derived.Test.YtgcnchmnciihnaaGreatDoorGRefStTwice
import Derived.Test.YtgcnchmnciihnaaGreatDoorGReadNew
namespace Go.Proofs.YtgcnchmnciihnaaGreatDoor
set_option linter.unusedSimpArgs false
set_option linter.unusedVariables false
open Go Go.RowKit

section
variable {P : Program} {Q : Exit → Act → World → Prop}
/-- a cut round the rest of a block, one part of which is walked now, the rest behind a name. -/
theorem wp_seq_block {s c2 : Code} {id : Nat} {K1 K : Act → World → Prop} {f : List Value} {w : World} (hK1 : ∀ a w, c2.wp P (Exit.inBlock id (Exit.then K Q)) a w → K1 a w) (m : List Bool) (R R0 : (Nat → Value) → World → Prop) (hR : R = R0)
    (first : ∀ K2 : Act → World → Prop, (∀ a w, c2.wp P (Exit.inBlock id (Exit.then (Meet m f R) Q)) a w → K2 a w) → s.wp P (Exit.then K2 (Exit.inBlock id (Exit.then (Meet m f R) Q))) ⟨f.toArray, []⟩ w)
    (rest : ∀ us wr, R0 us wr → K ⟨(frameOf us m 0 f).toArray, []⟩ wr) : s.wp P (Exit.then K1 (Exit.inBlock id (Exit.then K Q))) ⟨f.toArray, []⟩ w := by
  subst hR
  have hthen : ∀ e a' w', Exit.then (Meet m f R) Q e a' w' → Exit.then K Q e a' w' := by
    intro e a' w' hq
    cases e with
    | normal =>
      obtain ⟨l, rfl, h1, h2⟩ := hq
      have := rest (slots l) w' h2
      rwa [h1] at this
    | exit id => exact hq
    | goto l => exact hq
    | ret => exact hq
    | panic ch => exact hq
    | outgrown => exact hq
  refine wp_mono (first K1 fun a w h => hK1 a w (wp_mono h (inBlock_mono hthen))) ?_
  intro e a' w' hq
  cases e with
  | normal => exact hq
  | exit i => exact inBlock_mono (id := id) hthen (.exit i) a' w' hq
  | goto l => exact inBlock_mono (id := id) hthen (.goto l) a' w' hq
  | ret => exact inBlock_mono (id := id) hthen .ret a' w' hq
  | panic ch => exact inBlock_mono (id := id) hthen (.panic ch) a' w' hq
  | outgrown => exact inBlock_mono (id := id) hthen .outgrown a' w' hq
end
def PickTo7 (w : World) (n : Nat) (e : Ending) (w' : World) : Prop := ∃ r : Nat, e = .returned (.int .i64 r) ∧ r < n ∧ w' = w
theorem pick7_any (a b : Int) (n : Nat) (w : World) (hb : b = (n : Int)) (h0 : 0 < n) (hn : n ≤ 1099511627776) : Calls Tryz.prog 11 #[.int .i64 a, .int .i64 b] w (PickTo7 w n) := by
  subst hb
  have h1 := Int.tmod_lt_of_pos a (b := (n : Int)) (by omega)
  have h2 : -(n : Int) < a.tmod n := by
    have := Int.tmod_lt_of_pos (-a) (b := (n : Int)) (by omega)
    rw [Int.neg_tmod] at this
    omega
  obtain ⟨q, hq⟩ : ∃ q, q = a.tmod n := ⟨_, rfl⟩
  rw [← hq] at h1 h2
  have hn0 : ¬ (n : Int) = 0 := by omega
  have hn1 : ¬ (n : Int) = -1 := by omega
  have hq' := hq.symm
  by_cases hneg : q < 0
  · obtain ⟨r, hr⟩ : ∃ r : Nat, q + n = r := ⟨(q + n).toNat, by omega⟩
    have HRR : Hid (r < n) := hid (by omega)
    have hw : wrap64 (q + n) = (r : Int) := by unfold wrap64; omega
    clear hq
    go_enter Tryz.func11, Tryz.ntmps11
    go_wp2_with fail
    go_ret
    try simp only [hw, hr]
    exact ⟨r, rfl, HRR.out, rfl⟩
  · obtain ⟨r, rfl⟩ : ∃ r : Nat, q = r := ⟨q.toNat, by omega⟩
    have HRR : Hid (r < n) := hid (by omega)
    clear hq
    go_enter Tryz.func11, Tryz.ntmps11
    go_wp2_with fail
    go_ret
    exact ⟨r, rfl, HRR.out, rfl⟩

theorem loadTo_bad {w w' : World} {S : Nat} {lo hi k : Int} {r : Int × List CellP} {e : Ending} (h : r.1 = k) (hk : k ≠ 0) (hp : LoadTo w S lo hi r e w') : LoadErrTo w k e w' := by unfold LoadTo at hp; rw [h, if_neg hk] at hp; exact hp
/-- the two stores in the midst of the law. -/
structure LdK (B : Nat) (w wx : World) (S M D : Nat) (rv : Value) (ks : List KX) : Prop where
  st : StAt (fun b => b ≠ S ∧ b ≠ M ∧ b ≠ D ∧ rv.ownBlock ≠ some b) wx S M 0 32 (cellsOf ks)
  ref : RefAt B wx D 0 32 rv ks
  later : Later w wx
  base : S < B ∧ M < B ∧ w.heap.size ≤ S ∧ w.heap.size ≤ M ∧ B ≤ wx.heap.size
section
variable {B : Nat} {w wx wy wz : World} {S M D : Nat} {rv rv' : Value} {ks ks' : List KX} {c : CellP}
theorem LdK.at (h : LdK B w wx S M D rv ks) (k : Later wx wy) : LdK B w wy S M D rv ks := ⟨h.st.later k, h.ref.later k, Later.trans _ _ _ h.later k, by have := h.base; have := k.size; omega⟩
/-- Put by both. -/
theorem LdK.put (h : LdK B w wx S M D rv ks) (k1 : Keeps (fun b => b ≠ S ∧ b ≠ M) wx wy) (hst : ∀ V' : Nat → Prop, (∀ b, b ≠ S ∧ b ≠ M ∧ b ≠ D ∧ rv.ownBlock ≠ some b → b < wx.heap.size → V' b) → (∀ b, wx.heap.size ≤ b → b < wy.heap.size → V' b) → ¬ V' S → ¬ V' M → StAt V' wy S M 0 32 (insC c (cellsOf ks)))
    (hr : RefAt B wz D 0 32 rv' ks') (hc : cellsOf ks' = insC c (cellsOf ks)) (k2 : Keeps (fun b => b ≠ D ∧ rv.ownBlock ≠ some b) wy wz) (hb : rv'.ownBlock = rv.ownBlock ∨ ∀ b, rv'.ownBlock = some b → wy.heap.size ≤ b) : LdK B w wz S M D rv' ks' := by
  have hbase := h.base
  have hown := fun b hb => ownb h.ref.own b hb
  have hD := (Array.getElem?_eq_some_iff.1 h.ref.obj).1
  have hDB := h.ref.base
  have hS : S < wx.heap.size := h.st.lt
  have hM : M < wx.heap.size := h.st.map.lt
  have s1 := hst (fun b => (b ≠ S ∧ b ≠ M ∧ b ≠ D ∧ rv.ownBlock ≠ some b) ∧ b < wy.heap.size) (fun b hb hl => ⟨hb, Nat.lt_of_lt_of_le hl k1.size⟩) (fun b h1 h2 => ⟨⟨by omega, by omega, by omega, fun e => by have := (hown b e).2; omega⟩, h2⟩) (fun h => h.1.1 rfl) (fun h => h.1.2.1 rfl)
  have hne : ∀ {b : Nat}, b < B → b ≠ D ∧ rv.ownBlock ≠ some b := fun {b} hl => ⟨by omega, fun e => by have := (hown b e).1; omega⟩
  have s2 := s1.kept k2 (hne hbase.1) (hne hbase.2.1) fun b hb _ => ⟨hb.1.2.2.1, hb.1.2.2.2⟩
  refine ⟨?_, hr, Keeps.later (((h.later.keeps (fun _ => True)).low (k1.mono fun b _ (hb : b < w.heap.size) => by omega)).low (k2.mono fun b _ (hb : b < w.heap.size) => hne (by omega))), ⟨hbase.1, hbase.2.1, hbase.2.2.1, hbase.2.2.2.1, by have := k1.size; have := k2.size; omega⟩⟩
  rw [hc]
  refine s2.mono (fun b hb hl => ⟨hb.1.1, hb.1.2.1, hb.1.2.2.1, fun e => ?_⟩) (fun h => h.1 rfl) (fun h => h.2.1 rfl)
  rcases hb with ⟨⟨-, -, -, h4⟩, h5⟩
  rcases ‹rv'.ownBlock = rv.ownBlock ∨ ∀ b, rv'.ownBlock = some b → wy.heap.size ≤ b› with h6 | h6
  · exact h4 (h6 ▸ e)
  · have := h6 b e; omega
end
set_option maxRecDepth 100000 in
set_option maxHeartbeats 8000000 in
theorem loads_walk (v : Value) (l : List OpS) (which how at_ : Int) (w : World) (hv : IsOpsS w v l) (hlen : l.length ≤ 140737488355328) (hgd : ∀ x ∈ l, GoodS w x)
    (_h1 : (Lit.int .i64 which).wf = true) (_h2 : (Lit.int .i64 how).wf = true) (h3 : (Lit.int .i64 at_).wf = true) (ht : PowTab w) (hg : Laid w) :
    Calls Tryz.prog 3 #[v, .int .i64 which, .int .i64 how, .int .i64 at_] w (BoolTo w true) := by
  have HT := hid ht; have HLD := hid hg; have HGD := hid hgd; have HLL := hid hlen; have HAT := hid (wf64_r h3)
  obtain ⟨pa, pc0, rfl, -, -, -, he⟩ := hv
  have HE := hid he
  clear ht hg hgd he hlen _h1 _h2 h3
  go_enter Tryz.func3, Tryz.ntmps3
  go_wp2_with fail
  refine (new_any 0 32 w (by omega)).mono ?_
  rintro e w1 ⟨S, M, rfl, hS, hM, hst, hL1⟩
  have HST1 := hid (And.intro (And.intro hS hM) hL1)
  have HST2 := hid hst
  clear hS hM hst hL1
  obtain ⟨B, hB⟩ : ∃ B, B = w1.heap.size := ⟨_, rfl⟩
  obtain ⟨w2, hw2⟩ : ∃ W, W = w1.alloc (.cells #[.int .i64 0, .int .i64 32, .slice none 0 0] 31 (0, 0)) := ⟨_, rfl⟩
  have HK2 : Hid (LdK B w w2 S M B (.slice none 0 0) []) := hid (by
    have hs := (HST2.out (fun _ => False) (fun h => h) (fun h => h))
    have h1 := hs.lt
    have h2 := hs.map.lt
    have hL2 : Later w1 w2 := by rw [hw2]; exact Later.alloc _ _
    refine ⟨((HST2.out (fun b => b ≠ S ∧ b ≠ M ∧ b ≠ B ∧ (Value.slice none 0 0).ownBlock ≠ some b) (fun h => h.1 rfl) (fun h => h.2.1 rfl))).later hL2, ⟨by rw [hw2, hB]; exact obj_new _ _, ⟨rfl, .inl ⟨rfl, rfl⟩⟩, fun x hx => (by cases hx), Nat.le_refl _, Store.nil _ _, fun x hx => (by cases hx)⟩, Later.trans _ _ _ HST1.out.2 hL2, by have := HST1.out.1; have := hL2.size; omega⟩)
  clear HST1 HST2
  go_upto_region 5 with (fail)
  rw [← hw2, ← hB]
  clear hw2 hB
  go_wp2_with fail
  obtain ⟨R1, hR1⟩ : ∃ RR_ : (Nat → Value) → World → Prop, RR_ = (fun us wx => ∃ (i : Nat) (rv : Value) (ks : List KX), us 12 = .int .i64 i ∧ i ≤ l.length ∧ LdK B w wx S M B rv ks) := ⟨_, rfl⟩
  obtain ⟨mu1, hmu1⟩ : ∃ mu : (Nat → Value) → World → Nat, mu = (fun us _ => l.length - (intOf (us 12)).toNat) := ⟨_, rfl⟩
  have HR1 := hid hR1; have Hmu1 := hid hmu1; clear hR1 hmu1
  refine wp_loop_frame' [false, false, false, false, false, false, false, false, true, false, false, false, true, true, true, true, true, false, false, false, false, false, false, false, false, false, false, false, false, false, false, false, false, false, false, false, false, false, false, false, false, true, true, true, true, true, true, true, true, true, true, true, true, true, true, true, true, true, true, true, true, true, true, true, true, true, true, true, true, true, true, true] R1 _ mu1 HR1.out ?_ ?_
  · exact ⟨0, _, [], rfl, Nat.zero_le _, HK2.out⟩
  clear HK2
  intro us1 wy hrel
  obtain ⟨i, rv, ks, h12, hi, hst⟩ := hrel
  simp only [frameOf, Nat.reduceAdd, h12]
  have Hh12 := hid h12; clear h12
  have HI := hid hi; have HS := hid hst
  clear hi hst
  by_cases hlt : i < l.length
  · have HLT := hid hlt
    have hEi := HE.out i hlt
    have hgx := HGD.out _ (List.getElem_mem hlt)
    generalize l[i] = x at hEi hgx
    obtain ⟨b, o, hpa, -, q0, q1, q2, q3, q4, q5⟩ := hEi
    subst hpa
    obtain ⟨xk, ⟨key, ⟨f, t⟩, data⟩, xt, kv, dv⟩ := x
    simp only at q0 q1 q2 q3 q4 q5
    have HG := hid hgx
    obtain ⟨ka, kc, hkv, -⟩ := id hgx.key
    obtain ⟨da, dc, hdv, -⟩ := id hgx.data
    simp only at hkv hdv
    subst hkv hdv
    clear hgx
    replace q0 := HS.out.later.cell q0; replace q1 := HS.out.later.cell q1; replace q2 := HS.out.later.cell q2; replace q3 := HS.out.later.cell q3; replace q4 := HS.out.later.cell q4; replace q5 := HS.out.later.cell q5
    obtain ⟨T, hT⟩ : ∃ T, T = wy.heap.size := ⟨_, rfl⟩
    obtain ⟨wz, hwz⟩ : ∃ W, W = wy.alloc (.cells #[.int .i64 xk, .slice ka key.length kc, .int .i64 f, .int .i64 t, .slice da data.length dc, .int .i64 xt] 37 (0, 0)) := ⟨_, rfl⟩
    have HLZ : Hid (Later wy wz) := hid (by rw [hwz]; exact Later.alloc _ _)
    have HOZ : Hid (wz.heap[T]? = some (.cells #[.int .i64 xk, .slice ka key.length kc, .int .i64 f, .int .i64 t, .slice da data.length dc, .int .i64 xt] 37 (0, 0))) := hid (by rw [hwz, hT]; exact obj_new _ _)
    have HTN : Hid (T ≠ S ∧ T ≠ M ∧ wy.heap.size ≤ T) := hid (by have := HS.out.base; omega)
    go_upto_region 9 with (fail)
    rw [← hwz, ← hT]
    clear hwz hT q0 q1 q2 q3 q4 q5
    have z1 := cell_obj (i := 1) HOZ.out (v := .slice ka key.length kc) rfl
    have z2 := cell_obj (i := 2) HOZ.out (v := .int .i64 f) rfl
    have z3 := cell_obj (i := 3) HOZ.out (v := .int .i64 t) rfl
    have z4 := cell_obj (i := 4) HOZ.out (v := .slice da data.length dc) rfl
    have HSZ := hid (HS.out.at HLZ.out)
    go_wp2_with fail
    refine (put_any ⟨key, (f, t), data⟩ (.slice ka key.length kc) (.slice da data.length dc) wz HSZ.out.st (HG.out.key.later HSZ.out.later) (HG.out.data.bytes_later HSZ.out.later) HG.out.ok (HT.out.later HSZ.out.later) HG.out.len).mono ?_
    rintro e w5 hp
    have HP := hid hp
    clear z1 z2 z3 z4 hp
    have hi2 : (i : Int) + 1 ≤ 9223372036854775807 := by have := HLL.out; omega
    obtain ⟨k, hk⟩ : ∃ k, k = putErr 0 32 (cellsOf ks) ⟨key, (f, t), data⟩ := ⟨_, rfl⟩
    have HKE := hid hk
    have HW5 : Hid (Later w w5 ∧ w5.heap[T]? = some (.cells #[.int .i64 xk, .slice ka key.length kc, .int .i64 f, .int .i64 t, .slice da data.length dc, .int .i64 xt] 37 (0, 0)) ∧ RefAt B w5 B 0 32 rv ks ∧ B ≤ w5.heap.size ∧ e = .returned (errVal k)) := hid (by
      have hp := HP.out
      unfold PutWith at hp
      have hb := HSZ.out.base
      by_cases h0 : putErr 0 32 (cellsOf ks) ⟨key, (f, t), data⟩ = 0
      · rw [if_pos h0] at hp
        obtain ⟨rfl, hk5, -⟩ := hp
        refine ⟨Keeps.later ((HSZ.out.later.keeps (fun _ => True)).low (hk5.mono fun b _ (hb2 : b < w.heap.size) => by omega)), hk5.obj ⟨HTN.out.1, HTN.out.2.1⟩ HOZ.out, HSZ.out.ref.kept hk5 fun b hb2 _ => by omega, by have := hk5.size; omega, ?_⟩
        rw [hk, h0]; rfl
      · rw [if_neg h0] at hp
        obtain ⟨rfl, hL5⟩ := hp
        refine ⟨Later.trans _ _ _ HSZ.out.later hL5, hL5.obj HOZ.out, HSZ.out.ref.later hL5, by have := hL5.size; omega, ?_⟩
        rw [hk]
        exact congrArg _ (if_neg h0).symm)
    obtain ⟨-, -, -, -, he5⟩ := HW5.out
    subst he5
    clear hk
    go_wp2_with fail
    refine (told_any k _ (HLD.out.later HW5.out.1)).mono ?_
    rintro e w6 ⟨rfl, hL6⟩
    have HL6 := hid hL6
    have HO6 := hid (hL6.obj HW5.out.2.1)
    clear hL6
    have z1 := cell_obj (i := 1) HO6.out (v := .slice ka key.length kc) rfl
    have z2 := cell_obj (i := 2) HO6.out (v := .int .i64 f) rfl
    have z3 := cell_obj (i := 3) HO6.out (v := .int .i64 t) rfl
    have z4 := cell_obj (i := 4) HO6.out (v := .slice da data.length dc) rfl
    go_wp2_with fail
    have HLW6 := hid (Later.trans _ _ _ HW5.out.1 HL6.out)
    refine (rput_any ⟨key, (f, t), data⟩ (.slice ka key.length kc) (.slice da data.length dc) w6 (HW5.out.2.2.1.later HL6.out) (Nat.le_trans HW5.out.2.2.2.1 HL6.out.size) (HG.out.key.later HLW6.out) (HG.out.data.bytes_later HLW6.out) HG.out.ok HG.out.len).mono ?_
    rintro e w7 hr
    have HR := hid hr
    clear z1 z2 z3 z4 hr
    have HFIN : Hid (e = .returned (.int .i64 k) ∧ ∃ rv' ks', LdK B w w7 S M B rv' ks') := hid (by
      have hr := HR.out
      have hp := HP.out
      unfold RPutTo at hr
      unfold PutWith at hp
      by_cases h0 : putErr 0 32 (cellsOf ks) ⟨key, (f, t), data⟩ = 0
      · rw [if_pos h0] at hp hr
        obtain ⟨-, hk5, hst5⟩ := hp
        obtain ⟨rfl, rv', ks', hr1, hr2, hr3, hr4⟩ := hr
        refine ⟨by rw [HKE.out, h0], rv', ks', HSZ.out.put (hk5.more HL6.out) (fun V' v1 v2 v3 v4 => ?_) hr1 hr2 hr3 hr4⟩
        exact (hst5 V' v1 (fun b h1 h2 => v2 b h1 (Nat.lt_of_lt_of_le h2 HL6.out.size)) v3 v4).later HL6.out
      · rw [if_neg h0] at hp hr
        obtain ⟨-, hL5⟩ := hp
        obtain ⟨rfl, hL7⟩ := hr
        exact ⟨by rw [HKE.out], rv, ks, (HSZ.out.at hL5).at (Later.trans _ _ _ HL6.out hL7)⟩)
    obtain ⟨he7, rv', ks', hld⟩ := HFIN.out
    subst he7
    have HLDK := hid hld
    clear hld
    go_wp2_with fail
    refine Round.mk' HR1.out Hmu1.out rfl ?_ ?_
    · exact ⟨i + 1, rv', ks', by show Value.int .i64 ((i : Int) + 1) = _; rw [Int.natCast_add]; rfl, HLT.out, HLDK.out⟩
    · show l.length - (intOf (.int .i64 ((i : Int) + 1))).toNat < l.length - (intOf (us1 12)).toNat
      rw [Hh12.out]
      have := HLT.out
      simp only [intOf]
      omega
  go_wp2_with fail
  refine (save_any wy HS.out.st (HT.out.later HS.out.later)).mono ?_
  rintro e w8 ⟨sv, rfl, ⟨xs, hx1, hx2, hx3⟩, hL8⟩
  obtain ⟨sa, sc, rfl, -⟩ := own_slice hx2
  have HX1 := hid hx1; have HX2 := hid hx2; have HX3 := hid hx3
  have HF := hid HS.out.st.fine
  have HXL : Hid (xs.length ≤ 32) := hid (by have h1 := congrArg List.length hx1; rw [List.length_map] at h1; have := pieces_len (cellsOf ks) (lo := 0) (hi := 32) (by omega); omega)
  have HS8 := hid (HS.out.at hL8)
  have HL8 := hid hL8
  have HZ8 := hid hL8.size
  clear hx1 hx2 hx3 hL8 hlt HI
  go_wp2_with fail
  refine (save_any w8 HS8.out.st (HT.out.later HS8.out.later)).mono ?_
  rintro e wq ⟨bv, rfl, ⟨ys, hy1, hy2, hy3⟩, hLq⟩
  obtain ⟨ta, tc, rfl, -⟩ := own_slice hy2
  have HY1 := hid hy1; have HY2 := hid hy2; have HY3 := hid hy3
  have HSQ := hid (HS8.out.at hLq)
  have HXQ := hid (owns_at HX2.out hLq); have HDQ := hid (HX3.out.later hLq)
  have HXB : Hid (∀ b, (Value.slice sa xs.length sc).ownBlock = some b → b < w8.heap.size) := hid fun b hb => (ownb HX2.out b hb).2
  have HDB : Hid (∀ x ∈ xs, ∀ b, x.v.ownBlock = some b → b < w8.heap.size) := hid fun x hx b hb => (ownb (HX3.out.own x hx) b hb).2
  have HZQ := hid hLq.size
  have HYL : Hid (ys.length = xs.length) := hid (by have h1 := congrArg List.length hy1; have h2 := congrArg List.length HX1.out; rw [List.length_map] at h1 h2; omega)
  have HSTV : Hid (StAt (fun b => b ≠ S ∧ b ≠ M ∧ b < wy.heap.size) wq S M 0 32 (cellsOf ks)) := hid (by
    have h1 := HS.out.st.mono (V' := fun b => b ≠ S ∧ b ≠ M ∧ b < wy.heap.size) (fun b hb hl => ⟨hb.1, hb.2.1, hl⟩) (fun h => h.1 rfl) (fun h => h.2.1 rfl)
    exact h1.later (Later.trans _ _ _ HL8.out hLq))
  clear hy1 hy2 hy3 hLq HX2 HX3
  by_cases h0 : xs.length = 0
  · have hb0 : ((xs.length : Int) == 0) = true := by rw [h0]; rfl
    clear h0
    go_wp2_with fail
    refine ((load_any [] (.slice none 0 0) wq HSTV.out ⟨none, 0, rfl, Nat.le_refl _, by unfold maxLen; omega, (fun _ => rfl), fun i hi => by cases hi⟩ (by decide) (fun x hx => by cases hx) (HT.out.later HSQ.out.later)).mono fun _ _ => loadTo_is (show loadN 0 32 [] [] [] = (0, []) from rfl)).mono ?_
    rintro e wz ⟨rfl, hk, -⟩
    have HLZ : Hid (Later w wz) := hid (Keeps.later ((HSQ.out.later.keeps (fun _ => True)).low (hk.mono fun b _ (hb : b < w.heap.size) => by have := HSQ.out.base; omega)))
    clear hk
    go_wp2_with fail
    go_ret
    exact ⟨rfl, HLZ.out⟩
  have HX0 := hid h0
  have hb0 : ((xs.length : Int) == 0) = false := by rw [beq_eq_false_iff_ne]; omega
  clear h0
  go_wp2_with fail
  refine (pick7_any which _ xs.length wq (by (try unfold wrap64); have := HXL.out; omega) (by have := HX0.out; omega) (by have := HXL.out; omega)).mono ?_
  rintro e w10 ⟨k, rfl, hk, hw10⟩
  rw [hw10]
  clear hw10 w10 hb0
  have HK := hid hk
  obtain ⟨g, hga, hgB, q0, q1, hfr⟩ := OwnPc.cells HXQ.out hk
  subst hga
  have HFR := hid hfr
  clear hfr
  obtain ⟨xa, xc, hxv, -⟩ := own_slice (HDQ.out.own _ (List.getElem_mem hk))
  have hmem := List.getElem_mem hk
  obtain ⟨pre, post, gk, hat⟩ := at_k HX1.out hk
  have hdo := HDQ.out.own _ (List.getElem_mem hk)
  have hpw := List.pairwise_iff_getElem.1 HDQ.out.apart
  have HOTHE : Hid (∀ j (h : j < xs.length), j ≠ k → ∀ b, xs[j].v.ownBlock = some b → (xs[k]'hk).v.ownBlock ≠ some b) := hid fun j hj hne b hb e => by
    rcases Nat.lt_or_gt_of_ne hne with hl | hl
    · exact hpw j k hj hk hl b hb e
    · exact hpw k j hk hj hl b e hb
  clear hpw
  generalize hx : xs[k] = x at q0 q1 hxv hmem hat hdo HOTHE
  have HATK := hid hat; have HDO := hid hdo
  have HROWB : Hid (∀ b, (Value.slice (some ⟨g, 0, none⟩) xs.length sc).ownBlock = some b → wy.heap.size ≤ b ∧ b < w8.heap.size) := hid fun b hb => ⟨(ownb HXQ.out b hb).1, HXB.out b hb⟩
  have HBYB : Hid (∀ b, x.v.ownBlock = some b → wy.heap.size ≤ b ∧ b < w8.heap.size ∧ b ≠ g) := hid fun b hb => ⟨(ownb hdo b hb).1, HDB.out x hmem b hb, fun e => own_apart HXQ.out hdo (by decide) b (by rw [e]; rfl) hb⟩
  have HOTH : Hid (∀ W, Keeps (fun b => b ≠ g ∧ x.v.ownBlock ≠ some b) wq W → ∀ j (h : j < xs.length), j ≠ k → IsBytes W xs[j].v xs[j].bytes) := hid fun W hW j hj hne => (owned_bytes (owns_keep (HDQ.out.own _ (List.getElem_mem hj)) hW fun b hb => ⟨fun e => own_apart HXQ.out (HDQ.out.own _ (List.getElem_mem hj)) (by decide) b (by rw [e]; rfl) hb, HOTHE.out j hj hne b hb⟩)).all
  have HXBY : Hid (∀ W, Keeps (fun b => b ≠ g) wq W → W.ownsRow wy.heap.size 5 1 x.v x.bytes.length (byteCells x.bytes)) := hid fun W hW => owns_keep hdo hW fun b hb => (HBYB.out b hb).2.2
  have HROW : Hid (∀ W, Keeps (fun b => x.v.ownBlock ≠ some b) wq W → OwnPc wy.heap.size W (.slice (some ⟨g, 0, none⟩) xs.length sc) xs) := hid fun W hW => owns_keep HXQ.out hW fun b hb e => (HBYB.out b e).2.2 (by simpa [Value.ownBlock] using hb.symm)
  have HKP : Hid (∀ W, Keeps (fun b => b ≠ g ∧ x.v.ownBlock ≠ some b) wq W → Keeps (fun b => b < wy.heap.size ∨ w8.heap.size ≤ b) wq W) := hid fun W hW => hW.mono fun b _ hb => ⟨fun e => by have := HROWB.out g rfl; omega, fun e => by have := HBYB.out b e; omega⟩
  have HPF : Hid (∀ y ∈ xs.map PX.pair, (Lit.int .i64 y.1).wf = true ∧ y.2.length ≤ 1099511627776) := hid (by rw [HX1.out]; exact pieces_fine HF.out (by omega))
  have HXF : Hid ((Lit.int .i64 x.g).wf = true ∧ x.bytes.length ≤ 1099511627776) := hid (HPF.out _ (List.mem_map.2 ⟨x, hmem, rfl⟩))
  have HXQK : Hid (xs[k]? = some x) := hid (List.getElem?_eq_some_iff.2 ⟨hk, hx⟩)
  have HGB : Hid (x.bytes = (pc (cellsOf ks) gk).2 ∧ x.g = gk) := hid (by have := hat.is; unfold PX.pair pc at this; simp only [Prod.mk.injEq] at this; exact ⟨this.2, this.1⟩)
  have HBL : Hid (8 ≤ x.bytes.length ∧ x.bytes.length ≤ 134217736) := hid (by
    have h1 := pc_len HF.out hat.ne
    have h2 : x.bytes.length = (encCells ((cellsOf ks).filter (inGroup gk))).length + 8 := by rw [HGB.out.1]; exact sealed_length _
    omega)
  have HSF : Hid (∀ z : PX, ((Lit.int .i64 z.g).wf = true ∧ z.bytes.length ≤ 1099511627776) → ∀ y ∈ (xs.set k z).map PX.pair, (Lit.int .i64 y.1).wf = true ∧ y.2.length ≤ 1099511627776) := hid fun z hz y hy => by
    obtain ⟨u, hu, rfl⟩ := List.mem_map.1 hy
    rcases List.mem_or_eq_of_mem_set hu with h1 | rfl
    · exact HPF.out _ (List.mem_map.2 ⟨u, h1, rfl⟩)
    · exact hz
  obtain ⟨gb, hgb⟩ : ∃ gb, xa = some ⟨gb, 0, none⟩ := by
    have h := hdo.2
    rw [hxv] at h
    rcases h with ⟨e, h0⟩ | ⟨gb, cp, cur, e, -⟩
    · have := HBL.out; omega
    · simp only [Value.slice.injEq] at e; exact ⟨gb, e.1⟩
  subst hgb
  clear hat hdo HOTHE
  have HXE : Hid (∀ p, xs[k]'p = x) := hid fun _ => hx
  rw [hxv] at q1
  have HXV := hid hxv; have HXM := hid hmem
  have HQ0 := hid q0; have HQ1 := hid q1
  have hk1 : (k : Int) < xs.length := by omega
  clear hx hxv hmem hk
  go_wp2_with fail
  refine (pick7_any how _ 7 wq rfl (by decide) (by decide)).mono ?_
  rintro e w10 ⟨c, rfl, hc, hw10⟩
  rw [hw10]
  clear hw10 w10 q0 q1
  go_upto_region 29 with (fail)
  obtain ⟨R5, hR5⟩ : ∃ RR_ : (Nat → Value) → World → Prop, RR_ = (fun us wx => ∃ (lv : Value) (want : Int) (ps : List (Int × List UInt8)), us 17 = lv ∧ us 22 = .int .i64 want ∧ PcsIn All wx lv ps ∧ ps.length ≤ 64 ∧ (∀ x ∈ ps, (Lit.int .i64 x.1).wf = true ∧ x.2.length ≤ 1099511627776) ∧ (loadN 0 32 ps [] []).1 = want ∧ want ≠ 0 ∧ Keeps (fun b => b < wy.heap.size ∨ w8.heap.size ≤ b) wq wx) := ⟨_, rfl⟩
  have HR5 := hid hR5
  clear hR5
  refine wp_seq_block (by assumption) [false, false, false, false, false, false, false, false, true, false, false, false, false, false, false, false, false, true, false, false, true, true, true, true, true, false, false, false, false, false, false, false, false, false, false, false, false, false, false, false, false, false, false, false, false, false, false, false, false, false, false, false, false, false, false, false, false, false, false, false, false, false, false, false, false, false, false, false, false, false, false, false, false, false, false, false, false, false, false, false, false, false, false, false, false, false, false, false, false, false, false, false, false, false, true, true, true, true, true, true, true, true, true, true, true, true, true, true, true, true, true, true, true, true, true, true, true, true, true, true, true, true, true, true, true, true, true, true, true, true, true, true, true, true, true, true, true, true, true, true, true, true, true, true, true, true, true, true, true, true, true, true, true, true, true, true, true, true, true, true, true, true, true, true, true, true, true, true, true, true, true, true, true, true, true, true, true, true, true, true, true, true, true, true, true, true, true, true, true, true, true, true, true, true, true, true, true, true, true, true] R5 _ HR5.out ?_ ?_
  · intro K2 hK2
    have q0 := HQ0.out; have q1 := HQ1.out
    rcases (by omega : c = 0 ∨ c = 1 ∨ c = 2 ∨ c = 3 ∨ c = 4 ∨ c = 5 ∨ c = 6) with rfl | rfl | rfl | rfl | rfl | rfl | rfl
    · clear hc
      go_wp2_with (at_builtin; go_loud (refine wpList_append_obj rfl _ _ 42 rfl 47 2 32 Tryz.underlying42 pieceElem rfl (owns_at HXQ.out (Later.alloc _ _)) (news := [.int .i64 x.g, .slice (some ⟨gb, 0, none⟩) x.bytes.length xc]) rfl (obj_at (by simp)) rfl (fun u hu => by rcases List.mem_cons.1 hu with rfl | hu; rfl; obtain rfl := List.mem_singleton.1 hu; rfl) ?d1 ?d2 ?d3 ?_))
      case d1 => have := HXL.out; omega
      case d2 => have := HXL.out; unfold maxLen; omega
      case d3 => have := HZ8.out; have := HZQ.out; try simp only [World.size_alloc]
                 omega
      intro v7 w7 hA
      have hlL := Later.alloc wq (.cells #[.int .i64 x.g, .slice (some ⟨gb, 0, none⟩) x.bytes.length xc] 47 (0, 0))
      have hK7 : Keeps (fun b => b ≠ g) wq w7 := (hlL.keeps _).trans (hA.keeps.mono fun b _ hb e => hb (by simpa [Value.ownBlock] using e))
      have hO7 : OwnPc wy.heap.size w7 v7 (xs ++ [x]) := by
        have := hA.own
        unfold OwnPc
        rw [pxCells_app, List.length_append]
        have e : pxCells [x] = [.int .i64 x.g, .slice (some ⟨gb, 0, none⟩) x.bytes.length xc] := by rw [← HXV.out]; rfl
        rw [e]; exact this
      obtain ⟨a7, c7, hv7, -⟩ := own_slice hO7
      subst hv7
      have HK7 := hid hK7; have HO7 := hid hO7
      clear hA hlL hK7 hO7 q0 q1
      have hl7 : (xs ++ [x]).length = xs.length + 1 := by simp
      go_wp2_with fail
      refine Meet.mk' HR5.out rfl ?_
      refine ⟨_, 6, (xs ++ [x]).map PX.pair, rfl, rfl, ?_, by rw [List.length_map, List.length_append]; have := HXL.out; simp; omega, fun y hy => ?_, ?_, by decide, HKP.out _ (HK7.out.mono fun b _ hb => hb.1)⟩
      · refine pcs_in HO7.out fun y hy => ?_
        have hm : y ∈ xs := by rcases List.mem_append.1 hy with h | h; exact h; exact List.mem_singleton.1 h ▸ HXM.out
        exact (owned_bytes (owns_keep (HDQ.out.own y hm) HK7.out fun b hb e => own_apart HXQ.out (HDQ.out.own y hm) (by decide) b (by rw [e]; rfl) hb)).all
      · obtain ⟨u, hu, rfl⟩ := List.mem_map.1 hy
        rcases List.mem_append.1 hu with h | h
        · exact HPF.out _ (List.mem_map.2 ⟨u, h, rfl⟩)
        · obtain rfl := List.mem_singleton.1 h; exact HXF.out
      · have h1 : (xs ++ [x]).map PX.pair = (grpsN 0 (cellsOf ks) ((32 : Int) - 0).toNat).map (pc (cellsOf ks)) ++ [x.pair] := by
          rw [List.map_append, HX1.out]; unfold pieces; rw [piecesN_map]; rfl
        rw [h1, HATK.out.is]
        refine loadN_err6 HF.out (grps_ok (lo := 0) (hi := 32) ⟨by omega, by omega⟩) [] HATK.out.rng ?_
        exact grpsN_all (by have := HATK.out.rng; show 0 ≤ gk; omega) (by have := HATK.out.rng; show gk < _; omega) HATK.out.ne
    · clear hc
      go_wp2_with fail
      refine (pick7_any at_ _ 9 wq rfl (by decide) (by decide)).mono ?_
      rintro e w11 ⟨r, rfl, hr, hw11⟩
      rw [hw11]
      clear hw11 w11
      have HRR := hid hr
      have f0 := HFR.out (k * 2)
      have HK7 : Hid (Keeps (fun b => b ≠ g) wq (wq.setCell ⟨g, k * 2, none⟩ (.int .i64 (32 + (r : Int))))) := hid ((Keeps.refl (fun b => b ≠ g) wq).setCell (p := ⟨g, k * 2, none⟩) (.inl fun h => h rfl) _)
      have HO7 := hid (OwnPc.set0 HXQ.out HXQK.out (32 + (r : Int)))
      have hr9 : (r : Int) < 9 := by omega
      clear hr
      go_wp2_with fail
      refine Meet.mk' HR5.out rfl ?_
      refine ⟨_, 4, (xs.set k ⟨32 + (r : Int), x.v, x.bytes⟩).map PX.pair, rfl, rfl, ?_, by rw [List.length_map, List.length_set]; have := HXL.out; omega, HSF.out _ ⟨wf64 (by have := HRR.out; show _ ≤ 32 + (r : Int); omega) (by have := HRR.out; show 32 + (r : Int) ≤ _; omega), HXF.out.2⟩, ?_, by decide, HKP.out _ (HK7.out.mono fun b _ hb => hb.1)⟩
      · exact pcs_set HO7.out (owned_bytes (HXBY.out _ HK7.out)).all (HOTH.out _ (HK7.out.mono fun b _ hb => hb.1))
      · rw [HATK.out.set]
        exact loadN_err4 HF.out HATK.out.ok _ (.inr (by show 32 ≤ 32 + (r : Int); omega))
    · clear hc
      go_wp2_with fail
      refine (pick7_any at_ _ x.bytes.length wq rfl (by have := HBL.out; omega) (by have := HBL.out; omega)).mono ?_
      rintro e w11 ⟨r, rfl, hr, hw11⟩
      rw [hw11]
      clear hw11 w11
      have HRR := hid hr
      have f1 := HFR.out (k * 2 + 1)
      have HK7 : Hid (Keeps (fun b => b ≠ g) wq (wq.setCell ⟨g, k * 2 + 1, none⟩ (.slice (some ⟨gb, 0, none⟩) r xc))) := hid ((Keeps.refl (fun b => b ≠ g) wq).setCell (p := ⟨g, k * 2 + 1, none⟩) (.inl fun h => h rfl) _)
      have HO7 := hid (OwnPc.set1 HXQ.out HXQK.out (.slice (some ⟨gb, 0, none⟩) r xc) (x.bytes.take r))
      have hr9 : (r : Int) ≤ x.bytes.length := by omega
      have hxc : (r : Int) ≤ xc := by
        obtain ⟨a9, c9, e9, h9, -⟩ := own_slice HDO.out
        rw [HXV.out] at e9
        simp only [Value.slice.injEq] at e9
        omega
      clear hr
      go_wp2_with fail
      refine Meet.mk' HR5.out rfl ?_
      refine ⟨_, 7, (xs.set k ⟨x.g, .slice (some ⟨gb, 0, none⟩) r xc, x.bytes.take r⟩).map PX.pair, rfl, rfl, ?_, by rw [List.length_map, List.length_set]; have := HXL.out; omega, HSF.out _ ⟨HXF.out.1, by show (x.bytes.take r).length ≤ _; rw [List.length_take]; have := HBL.out; omega⟩, ?_, by decide, HKP.out _ (HK7.out.mono fun b _ hb => hb.1)⟩
      · refine pcs_set HO7.out ?_ (HOTH.out _ (HK7.out.mono fun b _ hb => hb.1))
        have h1 := (owned_bytes (HXBY.out _ HK7.out)).all
        rw [HXV.out] at h1
        have h2 : x.bytes = x.bytes.take r ++ x.bytes.drop r := (List.take_append_drop r _).symm
        have h3 : (x.bytes.take r).length = r := by rw [List.length_take]; have := HRR.out; omega
        rw [h2] at h1
        have h4 := bytes_prefix h1
        rw [h3] at h4
        exact h4
      · rw [HATK.out.set]
        refine loadN_err HF.out HATK.out.ok _ (by rw [show (PX.pair ⟨x.g, .slice (some ⟨gb, 0, none⟩) r xc, x.bytes.take r⟩).1 = gk from HGB.out.2]; exact HATK.out.rng) (by rw [show (PX.pair ⟨x.g, .slice (some ⟨gb, 0, none⟩) r xc, x.bytes.take r⟩).1 = gk from HGB.out.2]; exact HATK.out.new) (by rw [show (PX.pair ⟨x.g, .slice (some ⟨gb, 0, none⟩) r xc, x.bytes.take r⟩).1 = gk from HGB.out.2]; have := HATK.out.rng; omega) (by decide) fun N => ?_
        show (readE 0 32 x.g N (x.bytes.take r)).1 = 7
        rw [HGB.out.1]
        exact readE_cut HF.out HATK.out.ne (by rw [← HGB.out.1]; exact HRR.out) _ N
    · clear hc
      go_wp2_with fail
      refine (pick7_any at_ _ (x.bytes.length - 4) wq (by (try unfold wrap64); have := HBL.out; omega) (by have := HBL.out; omega) (by have := HBL.out; omega)).mono ?_
      rintro e w11 ⟨r, rfl, hr, hw11⟩
      rw [hw11]
      clear hw11 w11
      obtain ⟨n, hn⟩ : ∃ n, n = 4 + r := ⟨_, rfl⟩
      have hnl : n < x.bytes.length := by omega
      have hn4 : 4 ≤ n := by omega
      have hbx := (owned_bytes HDO.out)
      rw [HXV.out] at hbx
      have HBX := hid hbx
      obtain ⟨a9, c9, h9, -, -, -, hel⟩ := id hbx
      obtain ⟨b9, o9, e9, -, hc9⟩ := byte_cell hel hnl
      simp only [Value.slice.injEq] at h9
      obtain ⟨h9, -, -⟩ := h9
      rw [← h9] at e9
      simp only [Option.some.injEq, Addr.mk.injEq, and_true] at e9
      obtain ⟨rfl, rfl⟩ := e9
      obtain ⟨u, hu⟩ : ∃ u, u = x.bytes[n]'hnl := ⟨_, rfl⟩
      rw [← hu] at hc9
      have hfz : wq.frozen? ⟨gb, 0 + n, none⟩ = false := by
        have h := HDO.out.2
        rw [HXV.out] at h
        rcases h with ⟨e, -⟩ | ⟨gb', cp, cur, e, -, hg, -⟩
        · simp only [Value.slice.injEq] at e; exact absurd e.1 (by simp)
        · simp only [Value.slice.injEq, Option.some.injEq, Addr.mk.injEq, and_true] at e
          obtain ⟨rfl, -⟩ := e
          exact free_obj hg
      have HN := hid (And.intro hnl hn4)
      have hun := u.toNat_lt
      have hu8 : IntKind.u8.wrap ((u.toNat : Int) + 1) = ((u + 1).toNat : Int) := by
        rw [UInt8.toNat_add]
        simp only [IntKind.wrap, IntKind.signed, IntKind.bits]
        simp
      have HU : Hid (∀ p, x.bytes[n]'p = u) := hid fun _ => hu.symm
      rw [Nat.zero_add] at hc9 hfz
      have h4r : (4 : Int) + (r : Int) = (n : Int) := by omega
      have h4w : wrap64 (n : Int) = n := by have := HBL.out; unfold wrap64; omega
      clear hel h9 hbx hu
      clear hn hr
      have hnx : (n : Int) < x.bytes.length := Int.ofNat_lt.2 hnl
      have HK7 : Hid (Keeps (fun b => x.v.ownBlock ≠ some b) wq (wq.setCell ⟨gb, n, none⟩ (.int .u8 ((u + 1).toNat : Int)))) := hid ((Keeps.refl (fun b => x.v.ownBlock ≠ some b) wq).setCell (p := ⟨gb, n, none⟩) (.inl fun h => h (by rw [HXV.out]; rfl)) _)
      have HB7 : Hid (IsBytes (wq.setCell ⟨gb, n, none⟩ (.int .u8 ((u + 1).toNat : Int))) x.v (x.bytes.set n (u + 1))) := hid (by
        have := bytes_set HBX.out HN.out.1 (u + 1)
        rw [Nat.zero_add] at this
        rw [HXV.out]
        exact this.all)
      clear hnl hn4
      go_wp2_with fail
      refine Meet.mk' HR5.out rfl ?_
      refine ⟨_, 8, (xs.set k ⟨x.g, x.v, x.bytes.set n (u + 1)⟩).map PX.pair, rfl, rfl, ?_, by rw [List.length_map, List.length_set]; have := HXL.out; omega, HSF.out _ ⟨HXF.out.1, by show (x.bytes.set n (u + 1)).length ≤ _; rw [List.length_set]; have := HBL.out; omega⟩, ?_, by decide, HKP.out _ (HK7.out.mono fun b _ hb => hb.2)⟩
      · exact pcs_set (OwnPc.same (HROW.out _ HK7.out) HXQK.out _) HB7.out (HOTH.out _ (HK7.out.mono fun b _ hb => hb.2))
      · rw [HATK.out.set]
        have e1 : (PX.pair ⟨x.g, x.v, x.bytes.set n (u + 1)⟩).1 = gk := HGB.out.2
        refine loadN_err HF.out HATK.out.ok _ (by rw [e1]; exact HATK.out.rng) (by rw [e1]; exact HATK.out.new) (by rw [e1]; have := HATK.out.rng; omega) (by decide) fun N => ?_
        show (readE 0 32 x.g N (x.bytes.set n (u + 1))).1 = 8
        have hne : u + 1 ≠ x.bytes[n]'HN.out.1 := by
          rw [HU.out]
          intro e
          have := congrArg UInt8.toNat e
          rw [UInt8.toNat_add] at this
          have h1 : (1 : UInt8).toNat = 1 := rfl
          rw [h1] at this
          have := u.toNat_lt
          omega
        have hb := HGB.out.1
        have hnn := HN.out
        generalize x.bytes = bb at *
        subst hb
        exact readE_turn HF.out HATK.out.ne hnn.2 hnn.1 hne _ N
    · clear hc
      obtain ⟨ii, hi, hz0, hz1, hz2⟩ := info_parts infoU8
      have hdv := HDO.out
      rw [HXV.out] at hdv
      have HDV := hid hdv
      have HI := hid hi; have HZ0 := hid hz0; have HZ1 := hid hz1; have HZ2 := hid hz2
      clear hi hz0 hz1 hz2 hdv
      go_wp2_with (at_builtin; go_loud (refine wpList_put_byte rfl _ _ 35 rfl wy.heap.size 5 ii Tryz.underlying35 HI.out HZ0.out HZ1.out HZ2.out _ x.bytes rfl (owns_at HDV.out (Later.alloc _ _)) _ _ rfl (cell_obj (i := 0) (obj_new _ _) rfl) (UInt8.ofNat (at_ % 256).toNat) (by rw [UInt8.toNat_ofNat']; omega) ?c1 ?c2 ?_))
      case c1 => have := HBL.out; omega
      case c2 => have := HZ8.out; have := HZQ.out; try simp only [World.size_alloc]
                 omega
      intro v7 w7 hp
      have hlL := Later.alloc wq (.cells #[.int .u8 (at_ % 256)] 5 (0, 0))
      have hp1 := Put.ahead hlL hp
      obtain ⟨y, hy⟩ : ∃ y, y = UInt8.ofNat (at_ % 256).toNat := ⟨_, rfl⟩
      rw [← hy] at hp1
      have hv7 := hp1.own
      obtain ⟨a7, c7, hv7e, -⟩ := own_slice hv7
      subst hv7e
      have HP := hid hp1
      have hro := HROW.out _ (hp1.keep.mono fun b _ hb e => hb (by rw [HXV.out]; exact e.symm))
      have HRO := hid hro
      obtain ⟨g', hg', -, r0, r1, hfr⟩ := OwnPc.cells hro HK.out
      simp only [Option.some.injEq, Addr.mk.injEq, and_true] at hg'
      subst hg'
      have f1 := hfr (k * 2 + 1)
      have hn7 : (Value.slice a7 (x.bytes ++ [y]).length c7).ownBlock ≠ some g := fun e => by
        rcases HP.out.block with h | ⟨gg, h, h2⟩
        · rw [h] at e
          exact (HBYB.out g (by rw [HXV.out]; exact e)).2.2 rfl
        · rw [h] at e; injection e with e; have := HROWB.out g rfl; have := HZQ.out; omega
      have HN7 := hid hn7
      have hl7 : (x.bytes ++ [y]).length = x.bytes.length + 1 := by simp
      obtain ⟨m7, hm7⟩ : ∃ m7, m7 = x.bytes ++ [y] := ⟨_, rfl⟩
      have HM7 := hid hm7
      rw [← hm7] at HP HN7 hl7 ⊢
      have HL7 := hid hl7
      clear hp hp1 hlL hy hv7 hro hfr r0 hn7 hl7 hm7
      have HK7 : Hid (Keeps (fun b => b ≠ g ∧ x.v.ownBlock ≠ some b) wq (w7.setCell ⟨g, k * 2 + 1, none⟩ (.slice a7 m7.length c7))) := hid ((HP.out.keep.mono fun b _ hb e => hb.2 (by rw [HXV.out]; exact e.symm)).trans ((Keeps.refl (fun b => b ≠ g) w7).setCell (p := ⟨g, k * 2 + 1, none⟩) (.inl fun h => h rfl) _ |>.mono fun b _ hb => hb.1))
      have HO7 := hid (OwnPc.set1 HRO.out HXQK.out (.slice a7 m7.length c7) m7)
      have HB7 : Hid (IsBytes (w7.setCell ⟨g, k * 2 + 1, none⟩ (.slice a7 m7.length c7)) (.slice a7 m7.length c7) m7) := hid (owned_bytes (owns_keep HP.out.own ((Keeps.refl (fun b => b ≠ g) w7).setCell (p := ⟨g, k * 2 + 1, none⟩) (.inl fun h => h rfl) _) fun b hb e => HN7.out (e ▸ hb))).all
      go_wp2_with fail
      refine Meet.mk' HR5.out rfl ?_
      refine ⟨_, 7, (xs.set k ⟨x.g, .slice a7 m7.length c7, m7⟩).map PX.pair, rfl, rfl, pcs_set HO7.out HB7.out (HOTH.out _ HK7.out), by rw [List.length_map, List.length_set]; have := HXL.out; omega, HSF.out _ ⟨HXF.out.1, by show m7.length ≤ _; have := HBL.out; have := HL7.out; omega⟩, ?_, by decide, HKP.out _ HK7.out⟩
      rw [HATK.out.set]
      have e1 : (PX.pair ⟨x.g, .slice a7 m7.length c7, m7⟩).1 = gk := HGB.out.2
      refine loadN_err HF.out HATK.out.ok _ (by rw [e1]; exact HATK.out.rng) (by rw [e1]; exact HATK.out.new) (by rw [e1]; have := HATK.out.rng; omega) (by decide) fun N => ?_
      show (readE 0 32 x.g N m7).1 = 7
      rw [HM7.out, HGB.out.1]
      exact readE_more HF.out HATK.out.ne y _ N
    · clear hc
      go_wp2_with fail
      refine (rtwice_any x.g wq HSQ.out.ref HSQ.out.base.2.2.2.2).mono ?_
      rintro e w7 ⟨v7, rfl, ho7, hL7⟩
      have HOV := hid ho7
      have HL7 := hid hL7
      obtain ⟨a7, c7, hv7e, -⟩ := own_slice ho7
      subst hv7e
      obtain ⟨m7, hm7⟩ : ∃ m7, m7 = sealed (encCells (twiceL x.g (cellsOf ks))) := ⟨_, rfl⟩
      have HM7 := hid hm7
      rw [← hm7] at HOV ⊢
      have HRO := hid (HROW.out _ (hL7.keeps _))
      obtain ⟨g', hg', -, r0, r1, hfr⟩ := OwnPc.cells HRO.out HK.out
      simp only [Option.some.injEq, Addr.mk.injEq, and_true] at hg'
      subst hg'
      have f1 := hfr (k * 2 + 1)
      have HN7 : Hid ((Value.slice a7 m7.length c7).ownBlock ≠ some g) := hid fun e => by have := (ownb HOV.out g e).1; have := HROWB.out g rfl; have := HZQ.out; omega
      clear ho7 hL7 hfr r0 hm7 q0 q1
      have HK7 : Hid (Keeps (fun b => b ≠ g) wq (w7.setCell ⟨g, k * 2 + 1, none⟩ (.slice a7 m7.length c7))) := hid ((HL7.out.keeps _).trans ((Keeps.refl (fun b => b ≠ g) w7).setCell (p := ⟨g, k * 2 + 1, none⟩) (.inl fun h => h rfl) _))
      have HO7 := hid (OwnPc.set1 HRO.out HXQK.out (.slice a7 m7.length c7) m7)
      have HB7 : Hid (IsBytes (w7.setCell ⟨g, k * 2 + 1, none⟩ (.slice a7 m7.length c7)) (.slice a7 m7.length c7) m7) := hid (owned_bytes (owns_keep HOV.out ((Keeps.refl (fun b => b ≠ g) w7).setCell (p := ⟨g, k * 2 + 1, none⟩) (.inl fun h => h rfl) _) fun b hb e => HN7.out (e ▸ hb))).all
      go_wp2_with fail
      refine Meet.mk' HR5.out rfl ?_
      refine ⟨_, 7, (xs.set k ⟨x.g, .slice a7 m7.length c7, m7⟩).map PX.pair, rfl, rfl, pcs_set HO7.out HB7.out (HOTH.out _ (HK7.out.mono fun b _ hb => hb.1)), by rw [List.length_map, List.length_set]; have := HXL.out; omega, HSF.out _ ⟨HXF.out.1, by show m7.length ≤ _; rw [HM7.out]; exact twice_len HF.out⟩, ?_, by decide, HKP.out _ (HK7.out.mono fun b _ hb => hb.1)⟩
      rw [HATK.out.set]
      have e1 : (PX.pair ⟨x.g, .slice a7 m7.length c7, m7⟩).1 = gk := HGB.out.2
      refine loadN_err_at HF.out HATK.out.ok _ (by rw [e1]; exact HATK.out.rng) (by rw [e1]; exact HATK.out.new) (by rw [e1]; have := HATK.out.rng; omega) (by decide) ?_
      show (readE 0 32 x.g _ m7).1 = 7
      rw [HM7.out, HGB.out.2]
      exact readE_twice HF.out HATK.out.ne (by have := HATK.out.rng; omega) fun c _ hcg => seenR HF.out hcg (by rw [List.mem_reverse]; exact HATK.out.new)
    · clear hc
      have HGR := hid HATK.out.rng
      have hxg : x.g = gk := HGB.out.2
      have hg0 : 0 ≤ gk := HGR.out.1
      have hg1 : gk < 32 := HGR.out.2
      rw [hxg] at q0
      clear q1
      go_upto_region 23 with (fail)
      refine wp_region_plan (by kernel_rfl) (by kernel_rfl) [] [12, 13, 14] (by kernel_rfl) (fun _ _ d _ _ h => by cases d <;> exact h) (Later) (Later.refl) (Later.trans) (kinds [(9, fun v _ => ∃ r : Nat, v = .int .i64 r ∧ r < 30)]) (kinds_still (by simp only [List.mem_cons, List.not_mem_nil, or_false, forall_eq]; exact fun _ _ _ _ h => h)) ?_
      simp only [body, tail, numbered, Nat.reduceAdd, List.filter_cons, List.filter_nil, List.contains_cons, List.contains_nil, Nat.reduceBEq, Bool.or_false, Bool.or_true, Bool.false_or, Bool.true_or, Bool.not_true, Bool.not_false, Bool.and_true, Bool.and_false, Bool.true_and, Bool.false_and, if_true, if_false, reduceIte, Bool.false_eq_true, List.map_cons, List.map_nil]
      simp only [Pures]
      refine LexS.out ?_
      iterate 9
        first
        | (refine LexS.skip rfl ?_; simp only [Act.put, List.setIfInBounds_toArray, List.set])
        | (refine LexS.one' rfl rfl ?_
           apply Exists.intro
           refine ⟨fun w hR hF => ?_, ?_⟩
           · have hP := hR
             repeat (first | replace hP := Later.of_drew hP | replace hP := Later.of_drewN hP | replace hP := Later.of_alloc hP)
             have hcs := hR.cells
             have zq0 := hP.cell q0
             clear hR hF hP
             go_simp
             first | done | rfl
           simp only [Act.put, List.setIfInBounds_toArray, List.set])
      refine LexS.any rfl rfl (fun w hR hF => ?_) ?_
      · have hP := hR
        repeat (first | replace hP := Later.of_drew hP | replace hP := Later.of_drewN hP | replace hP := Later.of_alloc hP)
        have hsz := hP.size
        have zq0 := hP.cell q0
        clear hF hR q0
        unfold Runs
        go_simp
        refine yield_enter ?_
        refine (pick7_any at_ _ 30 _ rfl (by decide) (by decide)).mono ?_
        rintro e w' ⟨r, rfl, hr, rfl⟩
        exact ⟨_, rfl, (Later.refl _), ⟨r, rfl, hr⟩⟩
      rintro vk_ ⟨wk_, hRk_, hFk_⟩
      obtain ⟨r, rfl, hr⟩ := hFk_ _ List.mem_cons_self _ rfl
      clear hFk_ hRk_ wk_
      simp only [Act.put, List.setIfInBounds_toArray, List.set]
      have hw1 : IntKind.i64.wrap (gk + 1) = gk + 1 := IntWalk.i64_in _ (by omega)
      have hw2 : IntKind.i64.wrap (gk + 1 + (r : Int)) = gk + 1 + (r : Int) := IntWalk.i64_in _ (by omega)
      iterate 2
        first
        | (refine LexS.skip rfl ?_; simp only [Act.put, List.setIfInBounds_toArray, List.set])
        | (refine LexS.one' rfl rfl ?_
           apply Exists.intro
           refine ⟨fun w hR hF => ?_, ?_⟩
           · have hP := hR
             repeat (first | replace hP := Later.of_drew hP | replace hP := Later.of_drewN hP | replace hP := Later.of_alloc hP)
             have hcs := hR.cells
             have zq0 := hP.cell q0
             clear hR hF hP
             go_simp
             first | done | rfl
           simp only [Act.put, List.setIfInBounds_toArray, List.set])
      refine LexS.nil ?_
      intro w11 hR11 hF9
      clear hF9
      repeat (first | replace hR11 := Later.of_drew hR11 | replace hR11 := Later.of_drewN hR11 | replace hR11 := Later.of_alloc hR11)
      have HL11 := hid hR11
      have HRR := hid hr
      replace q0 := hR11.cell q0
      obtain ⟨g', hg', -, -, -, hfr⟩ := OwnPc.cells (owns_at HXQ.out hR11) HK.out
      simp only [Option.some.injEq, Addr.mk.injEq, and_true] at hg'
      subst hg'
      have f0 := hfr (k * 2)
      clear hR11 hr hw1 hw2 hfr
      go_upto_region 24 with (fail)
      obtain ⟨z, hz⟩ : ∃ z : Int, z = (gk + 1 + (r : Int)) % 32 := ⟨_, rfl⟩
      rw [← hz]
      have HZ : Hid (0 ≤ z ∧ z < 32 ∧ z ≠ gk) := hid (by have := HRR.out; omega)
      obtain ⟨w12, hw12⟩ : ∃ W, W = w11.setCell ⟨g, k * 2, none⟩ (.int .i64 z) := ⟨_, rfl⟩
      rw [← hw12]
      have HK7 : Hid (Keeps (fun b => b ≠ g) wq w12) := hid (by rw [hw12]; exact (HL11.out.keeps _).trans ((Keeps.refl (fun b => b ≠ g) w11).setCell (p := ⟨g, k * 2, none⟩) (.inl fun h => h rfl) _))
      have HO7 : Hid (OwnPc wy.heap.size w12 (.slice (some ⟨g, 0, none⟩) xs.length sc) (xs.set k ⟨z, x.v, x.bytes⟩)) := hid (by rw [hw12]; exact OwnPc.set0 (owns_at HXQ.out HL11.out) HXQK.out z)
      have HSL : Hid ((xs.set k ⟨z, x.v, x.bytes⟩).length = xs.length) := hid (List.length_set ..)
      have HHK := hid hk1
      clear hz hw12 q0 f0 hxg hg0 hg1
      go_wp2_with fail
      obtain ⟨R2, hR2⟩ : ∃ RR_ : (Nat → Value) → World → Prop, RR_ = (fun us wx => ∃ n : Nat, us 24 = .int .i64 n ∧ n ≤ xs.length ∧ Later w12 wx ∧ ∀ j (h : j < xs.length), j < n → j ≠ k → xs[j].g ≠ z) := ⟨_, rfl⟩
      obtain ⟨mu2, hmu2⟩ : ∃ mu : (Nat → Value) → World → Nat, mu = (fun us _ => xs.length - (intOf (us 24)).toNat) := ⟨_, rfl⟩
      have HR2 := hid hR2; have Hmu2 := hid hmu2; clear hR2 hmu2
      refine wp_loop_frame' [false, false, false, false, false, false, false, false, true, false, false, false, false, false, false, false, false, false, false, false, false, false, false, false, true, false, false, false, false, false, false, false, false, false, false, false, false, false, false, false, false, false, false, false, false, false, false, false, false, false, false, false, false, false, false, false, false, false, false, false, false, false, false, false, false, false, false, false, false, false, false, false, false, false, false, false, false, false, false, false, false, false, false, false, false, false, false, false, false, false, false, false, false, false, false, false, false, false, false, false, false, false, false, false, false, false, false, false, true, true, true, true, true, true, true, true, true, true, true, true, true, true, true, true, true, true, true, true, true, true] R2 _ mu2 HR2.out ?_ ?_
      · exact ⟨0, rfl, Nat.zero_le _, Later.refl _, fun j _ h => absurd h (Nat.not_lt_zero _)⟩
      intro us2 wz hrel
      obtain ⟨n, h24, hn, hL, hno⟩ := hrel
      simp only [frameOf, Nat.reduceAdd, h24]
      have Hh24 := hid h24; clear h24
      have HN := hid hn; have HLZ := hid hL; have HNO := hid hno
      clear hn hL hno
      by_cases hlt2 : n < xs.length
      · have HLT2 := hid hlt2
        have hn2 : (n : Int) < xs.length := by omega
        have hn3 : (n : Int) + 1 ≤ 9223372036854775807 := by have := HXL.out; omega
        obtain ⟨g', hg', -, y0, -, -⟩ := OwnPc.cells HO7.out (by rw [HSL.out]; exact hlt2 : n < _)
        simp only [Option.some.injEq, Addr.mk.injEq, and_true] at hg'
        subst hg'
        obtain ⟨g', hg', -, z0, -, -⟩ := OwnPc.cells HO7.out (by rw [HSL.out]; omega : k < _)
        simp only [Option.some.injEq, Addr.mk.injEq, and_true] at hg'
        subst hg'
        rw [List.getElem_set_self] at z0
        by_cases hnk : n = k
        · subst hnk
          have hne : ((n : Int) != (n : Int)) = false := by simp
          clear y0
          replace z0 := HLZ.out.cell z0
          go_upto_region 27 with (fail)
          refine wp_region_lex (by kernel_rfl) (by kernel_rfl) Later Later.refl Later.trans (fun _ => none) (fun _ _ _ _ _ h => by cases h) ?_
          simp only [numbered, Nat.reduceAdd]
          refine LexS.out ?_
          iterate 16
            first
            | (refine LexS.skip rfl ?_; simp only [Act.put, List.setIfInBounds_toArray, List.set])
            | (refine LexS.one' rfl rfl ?_
               apply Exists.intro
               refine ⟨fun w hR hF => ?_, ?_⟩
               · have hP := hR
                 repeat (first | replace hP := Later.of_drew hP | replace hP := Later.of_drewN hP | replace hP := Later.of_alloc hP)
                 have hcs := hR.cells
                 have zz0 := hP.cell z0
                 clear hR hF hP
                 go_simp
                 first | done | rfl
               simp only [Act.put, List.setIfInBounds_toArray, List.set])
          refine LexS.nil ?_
          intro wz1 hR1 hF9
          clear hF9
          repeat (first | replace hR1 := Later.of_drew hR1 | replace hR1 := Later.of_drewN hR1 | replace hR1 := Later.of_alloc hR1)
          have HLZ2 := hid (Later.trans _ _ _ HLZ.out hR1)
          clear hR1 z0
          go_wp2_with fail
          refine Round.mk' HR2.out Hmu2.out rfl ?_ ?_
          · exact ⟨n + 1, by show Value.int .i64 ((n : Int) + 1) = _; rw [Int.natCast_add]; rfl, HLT2.out, HLZ2.out, fun j h hj hjk => HNO.out j h (by omega) hjk⟩
          · show xs.length - (intOf (.int .i64 ((n : Int) + 1))).toNat < xs.length - (intOf (us2 24)).toNat
            rw [Hh24.out]
            have := HLT2.out
            simp only [intOf]
            omega
        · have HNK := hid hnk
          rw [List.getElem_set_ne (fun e => hnk e.symm)] at y0
          have hne : ((n : Int) != (k : Int)) = true := by simp; omega
          obtain ⟨xg, hxg⟩ : ∃ xg, xg = (xs[n]'hlt2).g := ⟨_, rfl⟩
          have HXG := hid hxg
          replace y0 : w12.cell? ⟨g, n * 2, none⟩ = some (.int .i64 xg) := by rw [hxg]; exact y0
          clear hxg
          replace y0 := HLZ.out.cell y0
          replace z0 := HLZ.out.cell z0
          clear hnk
          by_cases hgz : xg = z
          · rw [hgz] at y0
            clear hgz HXG
            go_upto_region 27 with (fail)
            refine wp_region_lex (by kernel_rfl) (by kernel_rfl) Later Later.refl Later.trans (fun _ => none) (fun _ _ _ _ _ h => by cases h) ?_
            simp only [numbered, Nat.reduceAdd]
            refine LexS.out ?_
            iterate 16
              first
              | (refine LexS.skip rfl ?_; simp only [Act.put, List.setIfInBounds_toArray, List.set])
              | (refine LexS.one' rfl rfl ?_
                 apply Exists.intro
                 refine ⟨fun w hR hF => ?_, ?_⟩
                 · have hP := hR
                   repeat (first | replace hP := Later.of_drew hP | replace hP := Later.of_drewN hP | replace hP := Later.of_alloc hP)
                   have hcs := hR.cells
                   have zy0 := hP.cell y0
                   have zz0 := hP.cell z0
                   clear hR hF hP
                   go_simp
                   first | done | rfl
                 simp only [Act.put, List.setIfInBounds_toArray, List.set])
            refine LexS.nil ?_
            intro wz1 hR1 hF9
            clear hF9
            repeat (first | replace hR1 := Later.of_drew hR1 | replace hR1 := Later.of_drewN hR1 | replace hR1 := Later.of_alloc hR1)
            have HLZ2 := hid (Later.trans _ _ _ HLZ.out hR1)
            clear hR1 y0 z0 hne
            go_wp2_with fail
            go_ret
            exact ⟨rfl, Keeps.later ((HSQ.out.later.keeps (fun _ => True)).low ((HK7.out.trans (HLZ2.out.keeps _)).mono fun b _ (hb : b < w.heap.size) => by have := HS.out.base; omega))⟩
          · have hz1 : (xg == z) = false := beq_eq_false_iff_ne.2 hgz
            have HGZ := hid hgz
            clear hgz
            go_upto_region 27 with (fail)
            refine wp_region_lex (by kernel_rfl) (by kernel_rfl) Later Later.refl Later.trans (fun _ => none) (fun _ _ _ _ _ h => by cases h) ?_
            simp only [numbered, Nat.reduceAdd]
            refine LexS.out ?_
            iterate 16
              first
              | (refine LexS.skip rfl ?_; simp only [Act.put, List.setIfInBounds_toArray, List.set])
              | (refine LexS.one' rfl rfl ?_
                 apply Exists.intro
                 refine ⟨fun w hR hF => ?_, ?_⟩
                 · have hP := hR
                   repeat (first | replace hP := Later.of_drew hP | replace hP := Later.of_drewN hP | replace hP := Later.of_alloc hP)
                   have hcs := hR.cells
                   have zy0 := hP.cell y0
                   have zz0 := hP.cell z0
                   clear hR hF hP
                   go_simp
                   first | done | rfl
                 simp only [Act.put, List.setIfInBounds_toArray, List.set])
            refine LexS.nil ?_
            intro wz1 hR1 hF9
            clear hF9
            repeat (first | replace hR1 := Later.of_drew hR1 | replace hR1 := Later.of_drewN hR1 | replace hR1 := Later.of_alloc hR1)
            have HLZ2 := hid (Later.trans _ _ _ HLZ.out hR1)
            clear hR1 y0 z0 hne
            go_wp2_with fail
            refine Round.mk' HR2.out Hmu2.out rfl ?_ ?_
            · exact ⟨n + 1, by show Value.int .i64 ((n : Int) + 1) = _; rw [Int.natCast_add]; rfl, HLT2.out, HLZ2.out, fun j h hj hjk => by
                rcases Nat.lt_or_ge j n with h1 | h1
                · exact HNO.out j h h1 hjk
                · obtain rfl : j = n := by omega
                  rw [← HXG.out]; exact HGZ.out⟩
            · show xs.length - (intOf (.int .i64 ((n : Int) + 1))).toNat < xs.length - (intOf (us2 24)).toNat
              rw [Hh24.out]
              have := HLT2.out
              simp only [intOf]
              omega
      have HNA : Hid (∀ j (h : j < xs.length), j ≠ k → xs[j].g ≠ z) := hid fun j h => HNO.out j h (by omega)
      have HK8 : Hid (Keeps (fun b => b ≠ g) wq wz) := hid (HK7.out.trans (HLZ.out.keeps _))
      have HO8 := hid (owns_at HO7.out HLZ.out)
      go_wp2_with fail
      refine Meet.mk' HR5.out rfl ?_
      refine ⟨_, 7, (xs.set k ⟨z, x.v, x.bytes⟩).map PX.pair, rfl, rfl, pcs_set HO8.out (owned_bytes (HXBY.out _ HK8.out)).all (HOTH.out _ (HK8.out.mono fun b _ hb => hb.1)), by rw [List.length_map, List.length_set]; have := HXL.out; omega, HSF.out _ ⟨wf64 (by have := HZ.out; show _ ≤ z; omega) (by have := HZ.out; show z ≤ _; omega), HXF.out.2⟩, ?_, by decide, HKP.out _ (HK8.out.mono fun b _ hb => hb.1)⟩
      rw [HATK.out.set]
      refine loadN_err HF.out HATK.out.ok _ (by show 0 ≤ z ∧ z < 32; have := HZ.out; omega) (HATK.out.pre z HNA.out) (by show ¬ (z < 0 ∨ 32 ≤ z); have := HZ.out; omega) (by decide) fun N => ?_
      show (readE 0 32 z N x.bytes).1 = 7
      rw [HGB.out.1]
      exact readE_group HF.out HATK.out.ne HZ.out.2.2 N
  intro us5 wr hrel
  obtain ⟨lv, want, ps, h17, h22, hps, hpl, hpf, hld, hw0, hkp⟩ := hrel
  simp only [frameOf, Nat.reduceAdd, h17, h22]
  have Hh17 := hid h17; clear h17
  have Hh22 := hid h22; clear h22
  have HPS := hid hps; have HPL := hid hpl; have HPFF := hid hpf; have HLDD := hid hld; have HW0 := hid hw0; have HKP5 := hid hkp
  clear hps hpl hpf hld hw0 hkp
  have HSTR : Hid (StAt (fun b => b ≠ S ∧ b ≠ M ∧ b < wy.heap.size) wr S M 0 32 (cellsOf ks)) := hid (HSTV.out.kept HKP5.out (.inl (by have := HS.out.base; omega)) (.inl (by have := HS.out.base; omega)) fun b hb _ => .inl hb.2.2)
  have HLWR : Hid (Later w wr) := hid (Keeps.later ((HSQ.out.later.keeps (fun _ => True)).low (HKP5.out.mono fun b _ (hb : b < w.heap.size) => .inl (by have := HS.out.base; omega))))
  have HY2R : Hid (OwnPc w8.heap.size wr (.slice ta ys.length tc) ys) := hid (owns_keep HY2.out HKP5.out fun b hb => .inr (ownb HY2.out b hb).1)
  have HYDR : Hid (∀ y ∈ ys, IsBytes wr y.v y.bytes) := hid fun y hy => (owned_bytes (owns_keep (HY3.out.own y hy) HKP5.out fun b hb => .inr (ownb (HY3.out.own y hy) b hb).1)).all
  go_wp2_with fail
  refine ((load_any ps lv wr HSTR.out HPS.out HPL.out HPFF.out (HT.out.later HLWR.out)).mono fun _ _ => loadTo_bad HLDD.out HW0.out).mono ?_
  rintro e ws ⟨rfl, hLs⟩
  have HLS := hid hLs; have HLWS := hid (Later.trans _ _ _ HLWR.out hLs)
  clear hLs
  go_wp2_with fail
  refine (told_errno want ws (HLD.out.later HLWS.out)).mono ?_
  rintro e wt ⟨rfl, hLt⟩
  have HLT5 := hid (Later.trans _ _ _ HLS.out hLt); have HLWT := hid (Later.trans _ _ _ HLWS.out hLt)
  clear hLt
  go_wp2_with fail
  refine (save_any wt (HSTR.out.later HLT5.out) (HT.out.later HLWT.out)).mono ?_
  rintro e wu ⟨zv, rfl, ⟨zs, hz1, hz2, hz3⟩, hLu⟩
  obtain ⟨za, zc, rfl, -⟩ := own_slice hz2
  have HZ1 := hid hz1; have HZ2 := hid hz2; have HZ3 := hid hz3
  have HLU := hid (Later.trans _ _ _ HLT5.out hLu); have HLWU := hid (Later.trans _ _ _ HLWT.out hLu)
  have HSAME : Hid (zs.map PX.pair = ys.map PX.pair) := hid (by rw [hz1, HY1.out])
  have hzl : zs.length = ys.length := by have := congrArg List.length HSAME.out; rwa [List.length_map, List.length_map] at this
  have HZL := hid hzl
  have HYLL : Hid (ys.length ≤ 32) := hid (by have := HYL.out; have := HXL.out; omega)
  have HYW := hid (owns_at HY2R.out HLU.out)
  have HYWD : Hid (∀ y ∈ ys, IsBytes wu y.v y.bytes) := hid fun y hy => (HYDR.out y hy).bytes_later HLU.out
  have HZWD : Hid (∀ z ∈ zs, IsBytes wu z.v z.bytes) := hid fun z hz => (owned_bytes (HZ3.out.own z hz)).all
  rw [hzl]
  clear hz1 hz2 hz3 hLu hzl
  go_wp2_with fail
  obtain ⟨R3, hR3⟩ : ∃ RR_ : (Nat → Value) → World → Prop, RR_ = (fun us wx => ∃ n : Nat, us 28 = .int .i64 n ∧ n ≤ ys.length ∧ Later wu wx) := ⟨_, rfl⟩
  obtain ⟨mu3, hmu3⟩ : ∃ mu : (Nat → Value) → World → Nat, mu = (fun us _ => ys.length - (intOf (us 28)).toNat) := ⟨_, rfl⟩
  have HR3 := hid hR3; have Hmu3 := hid hmu3; clear hR3 hmu3
  refine wp_loop_frame' [false, false, false, false, false, false, false, false, true, false, false, false, false, false, false, false, false, false, false, false, false, false, false, false, false, false, false, false, true, false, false, false, false, false, false, false, false, false, false, false, false, false, false, false, false, false, false, false, false, false, false, false, false, false, false, false, false, false, false, false, false, false, false, false, false, false, false, false, false, false, false, false, false, false, false, false, false, false, false, false, false, false, false, false, false, false, false, false, false, false, false, false, false, false, false, false, false, false, false, false, false, false, false, false, false, false, false, false, false, false, false, false, false, false, false, false, false, false, false, false, false, false, false, false, false, false, false, false, false, false, false, false, false, false, false, false, false, false, false, false, false, false, false, false, false, false, false, false, false, false, false, false, false, false, false, false, false, false, false, false, false, false, false, false, false, false, false, false, false, false, false, false, false, false, false, false, false, false, false, false, false, false, false, false, false, false, false, false, false, false, false, false, false, false, false, false, false, false, false, false, false, false, false, false, false, false, false, false, false, false, false, false, false, false, false, true, true, true, true, true, true, true, true, true, true, true, true, true, true, true, true, true, true, true, true, true, true, true, true, true, true, true, true, true, true, true, true] R3 _ mu3 HR3.out ?_ ?_
  · exact ⟨0, rfl, Nat.zero_le _, Later.refl _⟩
  intro us3 wv hrel
  obtain ⟨m, h28, hm, hLm⟩ := hrel
  simp only [frameOf, Nat.reduceAdd, h28]
  have Hh28 := hid h28; clear h28
  have HM := hid hm; have HLM := hid hLm
  clear hm hLm
  by_cases hlt3 : m < ys.length
  · have HLT3 := hid hlt3
    have hltz : m < zs.length := by rw [HZL.out]; exact hlt3
    obtain ⟨g1, hga, -, d0, d1, -⟩ := OwnPc.cells HYW.out hlt3
    subst hga
    have hzo : OwnPc wt.heap.size wu (.slice za ys.length zc) zs := by have := HZ2.out; rw [HZL.out] at this; exact this
    obtain ⟨g2, hga', -, q0, q1, -⟩ := OwnPc.cells (by rw [← HZL.out] at hzo; exact hzo) hltz
    subst hga'
    obtain ⟨e1, e2⟩ := PX.eq_of HSAME.out hlt3 hltz
    have hb1 := HZWD.out _ (List.getElem_mem hltz)
    have hb2 := HYWD.out _ (List.getElem_mem hlt3)
    generalize zs[m] = x at q0 q1 e1 e2 hb1
    generalize ys[m] = y at d0 d1 e1 e2 hb2
    rw [e1] at q0
    rw [e2] at hb1
    obtain ⟨xa, xc, hxv, -⟩ := id hb1
    obtain ⟨ya, yc, hyv, -⟩ := id hb2
    rw [hxv] at q1 hb1
    rw [hyv] at d1 hb2
    have HB1 := hid (hb1.bytes_later HLM.out); have HB2 := hid (hb2.bytes_later HLM.out)
    replace q0 := HLM.out.cell q0; replace q1 := HLM.out.cell q1; replace d0 := HLM.out.cell d0; replace d1 := HLM.out.cell d1
    obtain ⟨yg, hyg⟩ : ∃ yg, yg = y.g := ⟨_, rfl⟩
    obtain ⟨bb, hbb⟩ : ∃ bb, bb = y.bytes := ⟨_, rfl⟩
    rw [← hyg] at q0 d0
    rw [← hbb] at q1 d1 HB1 HB2
    clear hb1 hb2 e1 e2 hxv hyv hyg hbb hzo hltz
    have hm3 : (m : Int) < ys.length := by omega
    go_upto_region 55 with (fail)
    refine wp_region_lex (by kernel_rfl) (by kernel_rfl) Later Later.refl Later.trans (fun _ => none) (fun _ _ _ _ _ h => by cases h) ?_
    simp only [numbered, Nat.reduceAdd]
    refine LexS.out ?_
    iterate 26
      first
      | (refine LexS.skip rfl ?_; simp only [Act.put, List.setIfInBounds_toArray, List.set])
      | (refine LexS.one' rfl rfl ?_
         apply Exists.intro
         refine ⟨fun w hR hF => ?_, ?_⟩
         · have hP := hR
           repeat (first | replace hP := Later.of_drew hP | replace hP := Later.of_drewN hP | replace hP := Later.of_alloc hP)
           have hcs := hR.cells
           have zq0 := hP.cell q0
           have zq1 := hP.cell q1
           have zd0 := hP.cell d0
           have zd1 := hP.cell d1
           have zr0 := ((HB1.out.bytes_later hP).string (dst := 9) Tryz.underlying35 Tryz.underlying5 Tryz.underlying9)
           have zr1 := ((HB2.out.bytes_later hP).string (dst := 9) Tryz.underlying35 Tryz.underlying5 Tryz.underlying9)
           clear hR hF hP
           go_simp
           first | done | rfl
         simp only [Act.put, List.setIfInBounds_toArray, List.set])
    refine LexS.nil ?_
    intro wv1 hR1 hF9
    clear hF9
    repeat (first | replace hR1 := Later.of_drew hR1 | replace hR1 := Later.of_drewN hR1 | replace hR1 := Later.of_alloc hR1)
    have HLM2 := hid (Later.trans _ _ _ HLM.out hR1)
    clear q0 q1 d0 d1 hR1
    have hm2 : (m : Int) + 1 ≤ 9223372036854775807 := by have := HYLL.out; have := HLT3.out; omega
    go_wp2_with fail
    refine Round.mk' HR3.out Hmu3.out rfl ?_ ?_
    · exact ⟨m + 1, by show Value.int .i64 ((m : Int) + 1) = _; rw [Int.natCast_add]; rfl, HLT3.out, HLM2.out⟩
    · show ys.length - (intOf (.int .i64 ((m : Int) + 1))).toNat < ys.length - (intOf (us3 28)).toNat
      rw [Hh28.out]
      have := HLT3.out
      simp only [intOf]
      omega
  have HLWV := hid (Later.trans _ _ _ HLWU.out HLM.out)
  go_wp2_with fail
  go_ret
  exact ⟨by simp, HLWV.out⟩
end Go.Proofs.YtgcnchmnciihnaaGreatDoor
