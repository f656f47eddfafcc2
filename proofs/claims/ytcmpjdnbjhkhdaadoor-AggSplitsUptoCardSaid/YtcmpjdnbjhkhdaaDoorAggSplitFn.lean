/-
  PROVED HERE: the contract of agg.Split, walked.
-/
import Derived.Test.YtcmpjdnbjhkhdaaDoorGAggPut
namespace Go.Proofs.YtcmpjdnbjhkhdaaDoor
set_option linter.unusedSimpArgs false
set_option linter.unusedVariables false
open Go.RowKit

def kindT (kind : Int) : TypeId := if kind = 1 then 157 else if kind = 2 then 160 else if kind = 7 then 165 else 202
theorem AccAt.type {kind : Int} {B : Nat} {w : World} {T : TypeId} {p : Value} {l : List TV} (h : AccAt kind B w (.iface T p) l) : T = kindT kind := by
  unfold kindT
  rcases h with ⟨h0, A, h1, h2, h3⟩ | ⟨h0, A, h1, h2, h3⟩ | ⟨h0, A, u, h1, h2, h3⟩ | ⟨sg, h0, A, Bo, Bs, h1, h2, h3⟩ | ⟨sg, h0, A, Bo, Bs, h1, h2, h3⟩
  · rw [if_pos h0]; injection h2
  · rw [if_neg (by omega), if_pos h0]; injection h2
  · rw [if_neg (by omega), if_neg (by omega), if_pos h0]; injection h2
  · rw [if_neg (by omega), if_neg (by omega), if_neg (by omega)]; injection h2
  · rw [if_neg (by omega), if_neg (by omega), if_neg (by omega)]; injection h2
theorem acc_hap {kind : Int} {B A B2 K : Nat} {w0 w : World} {l : List TV} (h : AccAt kind B w0 (.iface 165 (.pointer (some ⟨A, 0, none⟩))) l) (k : Keeps (fun b => B ≤ b ∧ b < w0.heap.size) w0 w) (hB2 : w0.heap.size ≤ B2)
    (hK : ¬ (B ≤ K ∧ K < w0.heap.size)) : ∀ u, w.heap[A]? = some (.cells #[u] 167 (0, 0)) → ∀ g, u.ownBlock = some g → g < B2 ∧ g ≠ K := by
  obtain ⟨-, hB, u, h⟩ := inv_set h
  intro u' hu' g hg
  have h1 := k.obj ⟨hB, (Array.getElem?_eq_some_iff.1 h.obj).1⟩ h.obj
  rw [hu'] at h1
  simp only [Option.some.injEq, Obj.cells.injEq, Array.mk.injEq, List.cons.injEq, and_true] at h1
  subst h1
  have := ownb h.own g hg
  exact ⟨by omega, by omega⟩
theorem pick_get (l m : List TV) (i : Nat) (hi : i < 2) : pick2 l m i = l ∨ pick2 l m i = m := by unfold pick2; split; exact .inl rfl; exact .inr rfl
set_option maxRecDepth 100000 in
set_option maxHeartbeats 4000000 in
theorem split_any (kind : Int) (l m : List TV) (vl vm : Value) (w : World) (hl : IsTimeds w vl l) (hm : IsTimeds w vm m) (hll : l.length ≤ 1048576) (hml : m.length ≤ 1048576) (hg : ∀ t ∈ l ++ m, TvOk t) :
    Calls Tryd.prog 15 #[.int .i64 kind, vl, vm] w (FoldTo kind (l ++ m) w) := by
  have HV := hid hl; have HM := hid hm; have HLL := hid hll; have HML := hid hml; have HG := hid hg
  obtain ⟨pl, cl, rfl, -, -, -, hel⟩ := hl.lt
  obtain ⟨pm, cm, rfl, -, -, -, hem⟩ := hm.lt
  have HEL := hid hel; have HEM := hid hem
  clear hl hm hll hml hg hel hem
  have HLEN : Hid ((l ++ m).length * 40 ≤ 140737488355328) := hid (by rw [List.length_append]; have := HLL.out; have := HML.out; omega)
  go_enter Tryd.func15, Tryd.ntmps15
  go_upto_region 1 with (fail)
  obtain ⟨w0, hw0⟩ : ∃ w0, w0 = w.alloc (.cells #[.int .i64 0, .int .i64 0, .string ⟨#[]⟩] 25 (0, 0)) := ⟨_, rfl⟩
  obtain ⟨R, hR⟩ : ∃ R, R = w.heap.size := ⟨_, rfl⟩
  have HL0 : Hid (Later w w0) := hid (by rw [hw0]; exact Later.alloc _ _)
  have HR0 : Hid (w0.heap[R]? = some (.cells #[.int .i64 0, .int .i64 0, .string ⟨#[]⟩] 25 (0, 0))) := hid (by rw [hw0, hR]; exact obj_new _ _)
  have HR := hid hR
  rw [← hw0, ← hR]
  clear hw0 hR
  go_wp2_with fail
  refine (clone_timeds l _ w0 (HV.out.later HL0.out) (by have := HLL.out; omega)).mono ?_
  rintro e w1 ⟨v1, rfl, ⟨ho1, -⟩, hL1⟩
  obtain ⟨a1, c1, rfl⟩ := ownsRow_slice ho1
  have HO1 := hid ho1
  have HL1 := hid (Later.trans _ _ _ HL0.out hL1)
  have HR1 := hid (hL1.obj HR0.out)
  have HB1 := hid hL1.size
  clear ho1 hL1
  go_wp2_with (at_builtin; refine wpList_append_timeds rfl _ _ rfl w0.heap.size _ _ l m rfl HO1.out rfl (HM.out.later HL1.out) ?c1 HB1.out ?_)
  case c1 => have := HLL.out; have := HML.out; omega
  intro v2 w2 ho2 hk2
  obtain ⟨a2, c2, rfl⟩ := ownsRow_slice ho2
  have HT2 : Hid (IsTimeds w2 (.slice a2 (l.length + m.length) c2) (l ++ m)) := hid ((owned_timeds ho2).map fun _ _ _ _ hx => ⟨trivial, hx⟩)
  have HL2 : Hid (Later w w2) := hid (later_keep HL1.out hk2 HL0.out.size)
  have HR2 := hid (hk2.obj (by exact (Array.getElem?_eq_some_iff.1 HR0.out).1) HR1.out)
  clear ho2 hk2 HO1 HR1 HB1 HL1
  go_wp2_with fail
  refine (fold_any kind (l ++ m) _ w2 HT2.out HLEN.out).mono ?_
  rintro e w3 ⟨hL3, rfl⟩
  have HL3 := hid (Later.trans _ _ _ HL2.out hL3)
  have HR3 := hid (hL3.obj HR2.out)
  clear hL3 HL2 HR2 HT2 HR0 HL0
  by_cases hgood : (1 ≤ kind ∧ kind ≤ 7) ∧ okT (l ++ m) = true
  · have HGD := hid hgood
    rw [if_pos hgood]
    clear hgood
    obtain ⟨x, hx⟩ : ∃ x, x = foldV kind (l ++ m) := ⟨_, rfl⟩
    have HX := hid hx
    rw [← hx]
    clear hx
    obtain ⟨xk, xn, xt⟩ := x
    have hlR := (Array.getElem?_eq_some_iff.1 HR3.out).1
    go_upto_region 4 with (fail)
    go_upto_region 6 with (fail)
    obtain ⟨wz, hwz⟩ : ∃ wz, wz = (w3.alloc (.cells #[.int .i64 xk, .int .i64 xn, .string xt] 25 (0, 0))).alloc (.cells #[.slice pl l.length cl, .slice pm m.length cm] 22 (0, 0)) := ⟨_, rfl⟩
    obtain ⟨Z, hZ⟩ : ∃ Z, Z = w3.heap.size + 1 := ⟨_, rfl⟩
    have hZZ : Z = (w3.alloc (.cells #[.int .i64 xk, .int .i64 xn, .string xt] 25 (0, 0))).heap.size := by rw [World.size_alloc]; exact hZ
    have HLZ : Hid (Later w wz) := hid (by rw [hwz]; exact Later.trans _ _ _ HL3.out (Later.trans _ _ _ (Later.alloc _ _) (Later.alloc _ _)))
    have HRZ : Hid (wz.heap[R]? = some (.cells #[.int .i64 0, .int .i64 0, .string ⟨#[]⟩] 25 (0, 0))) := hid (by rw [hwz]; exact (Later.alloc _ _).obj ((Later.alloc _ _).obj HR3.out))
    have HZZ : Hid (wz.heap[Z]? = some (.cells #[.slice pl l.length cl, .slice pm m.length cm] 22 (0, 0))) := hid (by rw [hwz, hZZ]; exact obj_new _ _)
    change Code.wp _ _ _ _ ((w3.alloc (.cells #[.int .i64 xk, .int .i64 xn, .string xt] 25 (0, 0))).alloc (.cells #[.slice pl l.length cl, .slice pm m.length cm] 22 (0, 0)))
    rw [← hwz, ← hZ]
    have HRR := hid (Array.getElem?_eq_some_iff.1 HRZ.out).1
    have HZR := hid (Array.getElem?_eq_some_iff.1 HZZ.out).1
    clear hwz hZ hZZ hlR HR3 HL3
    obtain ⟨Bz, hBz⟩ : ∃ Bz, Bz = wz.heap.size := ⟨_, rfl⟩
    have HBZ := hid hBz
    clear hBz
    obtain ⟨R1, hR1⟩ : ∃ RR_ : (Nat → Value) → World → Prop, RR_ = (fun us wx => ∃ (i : Nat) (v : Value) (vs : List Value) (f : Nat → World) (g : Nat → Nat), us 33 = .int .i64 i ∧ us 10 = v ∧ i ≤ 2 ∧ Parts kind (pick2 l m) i v vs Bz f g wx ∧ Keeps (fun b => b < Bz) wz wx) := ⟨_, rfl⟩
    obtain ⟨mu1, hmu1⟩ : ∃ mu : (Nat → Value) → World → Nat, mu = (fun us _ => 2 - (intOf (us 33)).toNat) := ⟨_, rfl⟩
    have HR1 := hid hR1; have Hmu1 := hid hmu1; clear hR1 hmu1
    refine wp_loop_frame' [false, false, false, false, false, false, false, false, false, false, true, false, true, true, false, true, false, false, false, false, false, false, false, false, false, false, false, false, false, false, false, false, false, true, true, true, true, true, true, true, true, true, true, true, true, true, true, true, true, true, true, true, true, true, true, true, true, true] R1 _ mu1 HR1.out ?_ ?_
    · exact ⟨0, _, [], fun _ => w, fun _ => 0, rfl, rfl, by omega, Parts.nil _ _ _ _ _ _, Keeps.refl _ _⟩
    intro us1 wx hrel
    obtain ⟨i, v, vs, f, g, h33, h10, hi, hp, hkz⟩ := hrel
    simp only [frameOf, Nat.reduceAdd, h33, h10]
    have Hh33 := hid h33; clear h33
    have Hh10 := hid h10; clear h10
    have HI := hid hi; have HP := hid hp; have HKZ := hid hkz
    obtain ⟨av, cv, rfl⟩ := ownsRow_slice hp.own
    clear hi hp hkz
    by_cases hi2 : i < 2
    · obtain ⟨px, cx, hcx, hxs⟩ : ∃ px cx, ((#[.slice pl l.length cl, .slice pm m.length cm] : Array Value)[i]? = some (.slice px (pick2 l m i).length cx)) ∧ Elems (fun b => b < w.heap.size) TimedAt 4 w px (pick2 l m i) := by
        obtain rfl | rfl : i = 0 ∨ i = 1 := by omega
        · exact ⟨pl, cl, rfl, HEL.out⟩
        · exact ⟨pm, cm, rfl, HEM.out⟩
      have hzx := HKZ.out.obj (by have := HZR.out; have := HBZ.out; omega) HZZ.out
      have zi := cell_obj (i := i) hzx hcx
      have hlz := cell_lt zi
      have HXL : Hid ((pick2 l m i).length ≤ 1048576) := hid (by rcases pick_get l m i hi2 with e | e <;> rw [e]; exact HLL.out; exact HML.out)
      have HXS := hid hxs
      have HXF : Hid (Few (pick2 l m i)) := hid (by
        have hok := HGD.out.2
        unfold okT at hok
        rw [List.all_eq_true] at hok
        refine ⟨by have := HXL.out; omega, fun t ht => ?_⟩
        have hm : t ∈ l ++ m := by rcases pick_get l m i hi2 with e | e <;> rw [e] at ht; exact List.mem_append_left _ ht; exact List.mem_append_right _ ht
        exact ⟨HG.out t hm, hok t hm⟩)
      obtain ⟨x, hx⟩ : ∃ x, x = pick2 l m i := ⟨_, rfl⟩
      have HXX := hid hx
      rw [← hx] at HXL HXS HXF zi
      clear hx hxs hcx hzx
      go_wp2_with fail
      refine (made_any kind HGD.out.1.1 HGD.out.1.2 wx).mono ?_
      rintro e w4 ⟨v4, rfl, ha4, hL4⟩
      obtain ⟨T, A, rfl, hBA, hA, hT⟩ := ha4.four
      have HA4 := hid ha4; have HL4 := hid hL4; have HT := hid hT
      clear ha4 hL4 hBA hA hT zi hlz
      go_upto_region 10 with (fail)
      obtain ⟨B4, hB4⟩ : ∃ B4, B4 = wx.heap.size := ⟨_, rfl⟩
      have HB4 := hid hB4
      rw [← hB4] at HA4
      clear hB4
      obtain ⟨R2, hR2⟩ : ∃ RR_ : (Nat → Value) → World → Prop, RR_ = (fun us wy => ∃ n : Nat, us 41 = .int .i64 n ∧ n ≤ x.length ∧ AccAt kind B4 wy (.iface T (.pointer (some ⟨A, 0, none⟩))) (x.take n) ∧ Keeps (fun b => b < B4) wx wy) := ⟨_, rfl⟩
      obtain ⟨mu2, hmu2⟩ : ∃ mu : (Nat → Value) → World → Nat, mu = (fun us _ => x.length - (intOf (us 41)).toNat) := ⟨_, rfl⟩
      have HR2 := hid hR2; have Hmu2 := hid hmu2; clear hR2 hmu2
      refine wp_loop_frame' [false, false, false, false, false, false, false, false, false, false, false, false, false, false, false, true, false, false, false, false, false, false, false, false, false, false, false, false, false, false, false, false, false, false, false, false, false, false, false, false, false, true, true, true, true, true, true, true, true] R2 _ mu2 HR2.out ?_ ?_
      · exact ⟨0, rfl, Nat.zero_le _, HA4.out, HL4.out.keeps _⟩
      intro us2 wy hrel
      obtain ⟨n, h41, hn, hacc, hk⟩ := hrel
      simp only [frameOf, Nat.reduceAdd, h41]
      have Hh41 := hid h41; clear h41
      have HN := hid hn; have HACC := hid hacc; have HK := hid hk
      clear hn hacc hk
      by_cases hnl : n < x.length
      · obtain ⟨b1, o1, rfl, hb1, e1⟩ := HXS.out n hnl
        obtain ⟨p0, p1, p2, p3⟩ := ((e1.later HLZ.out).kept (S := fun b => b < Bz) (by have := HBZ.out; have := HLZ.out.size; omega) HKZ.out).kept (S := fun b => b < B4) (by have := HB4.out; have := HLZ.out.size; have := HKZ.out.size; omega) HK.out
        clear e1
        have hl1 : b1 < wy.heap.size := cell_lt p0
        have HTK : Hid (x.take (n + 1) = x.take n ++ [x[n]]) := hid (List.take_succ_eq_append_getElem hnl)
        generalize x[n] = t at *
        obtain ⟨ti, tk, tn, tt⟩ := t
        have HLT : Hid (((x.take n).length + 1) * 32 ≤ 140737488355328) := hid (by rw [List.length_take]; have := HXL.out; omega)
        go_upto_region 12 with (fail)
        obtain ⟨w5, hw5⟩ : ∃ w5, w5 = wy.alloc (.cells #[.int .i64 ti, .int .i64 tk, .int .i64 tn, .string tt] 36 (0, 0)) := ⟨_, rfl⟩
        obtain ⟨U, hU⟩ : ∃ U, U = wy.heap.size := ⟨_, rfl⟩
        have HU5 : Hid (w5.heap[U]? = some (.cells #[.int .i64 ti, .int .i64 tk, .int .i64 tn, .string tt] 36 (0, 0))) := hid (by rw [hw5, hU]; exact obj_new _ _)
        have HL5 : Hid (Later wy w5) := hid (by rw [hw5]; exact Later.alloc _ _)
        rw [← hw5, ← hU]
        clear hw5 hU p0 p1 p2 p3 hl1
        have HA5 := hid (HACC.out.later HL5.out)
        have HK5 := hid (HK.out.more HL5.out)
        have HBW : Hid (B4 ≤ w5.heap.size) := hid (by rw [HB4.out]; exact HK5.out.size)
        have u0 := cell_obj (i := 0) HU5.out (v := .int .i64 ti) rfl
        have u1 := cell_obj (i := 1) HU5.out (v := .int .i64 tk) rfl
        have u2 := cell_obj (i := 2) HU5.out (v := .int .i64 tn) rfl
        have u3 := cell_obj (i := 3) HU5.out (v := .string tt) rfl
        have hu := cell_lt u0
        have HW : Hid (wrap64 ((n : Int) + 1) = ((n + 1 : Nat) : Int)) := hid (by have := HXL.out; unfold wrap64; omega)
        have hT := HT.out
        rcases hT with rfl | rfl | rfl | rfl
        all_goals
          go_wp2_with fail
          first
          | refine (a_cnt HA5.out ⟨ti, ⟨tk, tn, tt⟩⟩ HLT.out HBW.out).mono ?_
          | refine (a_sum HA5.out ⟨ti, ⟨tk, tn, tt⟩⟩ HLT.out HBW.out).mono ?_
          | refine (a_set HA5.out ⟨ti, ⟨tk, tn, tt⟩⟩ HLT.out HBW.out).mono ?_
          | refine (a_ch HA5.out ⟨ti, ⟨tk, tn, tt⟩⟩ HLT.out HBW.out).mono ?_
          rintro e w6 ⟨rfl, ha6, hk6⟩
          have HA6 := hid ha6; have HK6 := hid (HK5.out.trans hk6)
          clear ha6 hk6 u0 u1 u2 u3 hu
          go_wp2_with fail
          rw [HW.out]
          refine Round.mk' HR2.out Hmu2.out rfl ?_ ?_
          · exact ⟨n + 1, rfl, hnl, by rw [HTK.out]; exact HA6.out, HK6.out⟩
          · simp only [slots, List.getD_cons_succ, List.getD_cons_zero, Hh41.out, intOf, Int.toNat_natCast]
            omega
      · have hnl' : n = x.length := by have := HN.out; omega
        subst hnl'
        have HAX : Hid (AccAt kind B4 wy (.iface T (.pointer (some ⟨A, 0, none⟩))) x) := hid (by have := HACC.out; rwa [List.take_length] at this)
        clear HACC
        have HWI : Hid (wrap64 ((i : Int) + 1) = ((i + 1 : Nat) : Int)) := hid (by unfold wrap64; omega)
        go_upto_region 14 with (fail)
        have hT := HT.out
        rcases hT with rfl | rfl | rfl | rfl
        all_goals
          go_wp2_with fail
          first
          | refine (p_cnt HAX.out HXF.out).mono ?_
          | refine (p_sum HAX.out HXF.out).mono ?_
          | refine (p_set HAX.out HXF.out).mono ?_
          | refine (p_ch HAX.out HXF.out).mono ?_
          rintro e w5 ⟨v5, rfl, ho5, hL5⟩
          obtain ⟨a5, c5, rfl⟩ := ownsRow_slice ho5
          have HO5 := hid ho5; have HK5 := hid (HK.out.more hL5)
          clear ho5 hL5
          go_wp2_with fail
          refine (read_new _ (encA kind x) w5 (owned_bytes HO5.out).all).mono ?_
          rintro e w6 ⟨Rd, rfl, hr6, hRd, hL6⟩
          have HR6 := hid hr6; have HRD := hid hRd; have HK6 := hid (HK5.out.more hL6)
          have HS5 := hid HK5.out.size
          clear hr6 hRd hL6
          go_wp2_with fail
          refine (aggread_any kind HGD.out.1.1 HGD.out.1.2 x Rd [] w6 HXF.out (by rw [List.append_nil]; exact HR6.out)).mono ?_
          rintro e w7 ⟨v7, rfl, ha7, hk7⟩
          have HA7 := hid ha7
          have HS6 : Hid (B4 ≤ w6.heap.size) := hid (by rw [HB4.out]; exact HK6.out.size)
          have HK7 : Hid (Keeps (fun b => b < B4) wx w7) := hid (HK6.out.trans (hk7.mono fun b _ hb => by have := HRD.out; have := HS5.out; have := HB4.out; omega))
          clear ha7 hk7
          obtain ⟨T7, A7, rfl, -, -, -⟩ := HA7.out.four
          have HO8 : Hid ((w7.alloc (.cells #[.iface T7 (.pointer (some ⟨A7, 0, none⟩))] 94 (0, 0))).ownsRow Bz 94 1 (.slice av i cv) i vs) := hid (owns_keep HP.out.own (HK7.out.more (Later.alloc _ _)) fun b hb => by rw [HB4.out]; exact (ownb HP.out.own b hb).2)
          have HBX : Hid (Bz ≤ wx.heap.size) := hid (by rw [HBZ.out]; exact HKZ.out.size)
          have HN8 := hid (obj_new w7 (.cells #[.iface T7 (.pointer (some ⟨A7, 0, none⟩))] 94 (0, 0)))
          have HB8 : Hid (Bz ≤ (w7.alloc (.cells #[.iface T7 (.pointer (some ⟨A7, 0, none⟩))] 94 (0, 0))).heap.size) := hid (Nat.le_trans HBX.out (HK7.out.more (Later.alloc _ _)).size)
          go_wp2_with (at_builtin; refine wpList_append_objx rfl _ _ 103 rfl 94 1 16 Tryd.underlying103 accElem rfl HO8.out (news := [.iface T7 (.pointer (some ⟨A7, 0, none⟩))]) rfl HN8.out rfl (fun u hu => by obtain rfl := List.mem_singleton.1 hu; rfl) ?c1 ?c2 HB8.out ?_)
          case c1 => omega
          case c2 => unfold maxLen; omega
          intro v9 w9 hx9
          have HP9 := hid (HP.out.step (w3 := w6) (HK7.out.more (Later.alloc _ _) |>.mono fun b _ hb => by rw [HB4.out]; exact hb) (by rw [← HXX.out]; exact HA7.out.later (Later.alloc _ _)) (by rw [← HB4.out]; exact HS6.out) hx9 HBX.out)
          have HK9 : Hid (Keeps (fun b => b < Bz) w7 w9) := hid (((Later.alloc _ _).keeps _).trans (hx9.low HO8.out))
          clear hx9
          have HKZ9 : Hid (Keeps (fun b => b < Bz) wz w9) := hid ((HKZ.out.trans (HK7.out.mono fun b _ hb => by have := HBX.out; have := HB4.out; omega)).trans HK9.out)
          obtain ⟨a9, c9, rfl⟩ := ownsRow_slice HP9.out.own
          go_wp2_with fail
          have e1 : (i : Int) + 1 = ((i + 1 : Nat) : Int) := by omega
          rw [e1]
          refine Round.mk' HR1.out Hmu1.out rfl ?_ ?_
          · exact ⟨i + 1, _, _, _, _, rfl, rfl, by omega, HP9.out, HKZ9.out⟩
          · simp only [slots, List.getD_cons_succ, List.getD_cons_zero, Hh33.out, intOf, Int.toNat_natCast]
            omega
    · have hi2' : i = 2 := by have := HI.out; omega
      subst hi2'
      have hpp := HP.out
      obtain ⟨u0, u1, rfl⟩ : ∃ u0 u1, vs = [u0, u1] := by
        match vs, hpp.len with
        | [a, b], _ => exact ⟨a, b, rfl⟩
      have ha0 := hpp.acc 0 (by simp)
      have ha1 := hpp.acc 1 (by simp)
      change AccAt kind (g 0) (f 0) u0 l at ha0
      change AccAt kind (g 1) (f 1) u1 m at ha1
      obtain ⟨T, A, rfl, hBA, hA, hT⟩ := ha0.four
      obtain ⟨T', C, rfl, hBC, hC, -⟩ := ha1.four
      obtain rfl : T = T' := ha0.type.trans ha1.type.symm
      have hk0 := hpp.keep 0 (by omega)
      have hk1 := hpp.keep 1 (by omega)
      have hap : (f 0).heap.size ≤ g 1 := hpp.apart 0 (by omega)
      have hAw : A < wx.heap.size := by have := hk0.size; omega
      have hlow := (hpp.low 0 (by omega))
      obtain ⟨P, cap, cur, hv, hBP, hPO, -, -, -, -⟩ : ∃ (P cap : Nat) (cur : Array Value), Value.slice av 2 cv = .slice (some ⟨P, 0, none⟩) 2 cap ∧ Bz ≤ P ∧ wx.heap[P]? = some (.cells cur 94 (0, 0)) ∧ 2 ≤ cap ∧ cap ≤ maxLen ∧ cur.size = cap * 1 ∧ True := by
        rcases hpp.own.2 with ⟨-, h0⟩ | ⟨P, cap, cur, h1, h2, h3, h4, h5, h6, h7⟩
        · cases h0
        · exact ⟨P, cap, cur, h1, h2, h3, h4, h5, h6, trivial⟩
      simp only [Value.slice.injEq, true_and] at hv
      obtain ⟨rfl, rfl⟩ := hv
      have hcell := hpp.own.cells (g := P) rfl
      have c0 : wx.cell? ⟨P, 0, none⟩ = some (.iface T (.pointer (some ⟨A, 0, none⟩))) := hcell 0 _ rfl
      have c1 : wx.cell? ⟨P, 1, none⟩ = some (.iface T (.pointer (some ⟨C, 0, none⟩))) := hcell 1 _ rfl
      have hnP := hlow.2 P rfl
      have HA0 := hid (ha0.keep hk0); have HA1 := hid (ha1.keep hk1)
      have HAP : Hid (A < g 1) := hid (by omega)
      have HPA : Hid (P ≠ A) := hid (by rintro rfl; exact hnP ⟨hBA, hA⟩)
      have HHS : Hid (T = 165 → ∀ u, wx.heap[A]? = some (.cells #[u] 167 (0, 0)) → ∀ b, u.ownBlock = some b → b < g 1 ∧ b ≠ P) := hid (by rintro rfl; exact acc_hap ha0 hk0 hap hnP)
      have HG0 : Hid (Bz ≤ g 0) := hid hlow.1
      have HG1 : Hid (g 0 ≤ wx.heap.size) := hid (by have := hk0.size; omega)
      have HFL : Hid (Few l) := hid ⟨by have := HLL.out; omega, fun t ht => ⟨HG.out t (List.mem_append_left _ ht), by have h := HGD.out.2; unfold okT at h; rw [List.all_eq_true] at h; exact h t (List.mem_append_left _ ht)⟩⟩
      have HFM : Hid (Few m) := hid ⟨by have := HML.out; omega, fun t ht => ⟨HG.out t (List.mem_append_right _ ht), by have h := HGD.out.2; unfold okT at h; rw [List.all_eq_true] at h; exact h t (List.mem_append_right _ ht)⟩⟩
      have hlp := cell_lt c0
      have HT := hid hT
      clear hpp ha0 ha1 hBA hA hBC hC hk0 hk1 hap hlow hcell hnP hPO hBP hT HP
      go_upto_region 16 with (fail)
      refine wp_region_plan (by kernel_rfl) (by kernel_rfl) [] [8] (by kernel_rfl) (fun _ _ d _ _ h => by cases d <;> exact h) (Later) (Later.refl) (Later.trans) (fun _ => none) (fun _ _ _ _ _ h => by cases h) ?_
      simp only [body, tail, numbered, Nat.reduceAdd, List.filter_cons, List.filter_nil, List.contains_cons, List.contains_nil, Nat.reduceBEq, Bool.or_false, Bool.or_true, Bool.false_or, Bool.true_or, Bool.not_true, Bool.not_false, Bool.and_true, Bool.and_false, Bool.true_and, Bool.false_and, if_true, if_false, reduceIte, Bool.false_eq_true, List.map_cons, List.map_nil]
      simp only [Pures]
      refine LexS.out ?_
      iterate 8
        first
        | (refine LexS.skip rfl ?_; simp only [Act.put, List.setIfInBounds_toArray, List.set])
        | (refine LexS.one' rfl rfl ?_
           apply Exists.intro
           refine ⟨fun w hR hF => ?_, ?_⟩
           · have hP := hR
             repeat (first | replace hP := Later.of_drew hP | replace hP := Later.of_drewN hP | replace hP := Later.of_alloc hP)
             have hcs := hR.cells
             have zc0 := hP.cell c0
             have zc1 := hP.cell c1
             clear hR hF hP
             go_simp
             first | done | rfl
           simp only [Act.put, List.setIfInBounds_toArray, List.set])
      refine LexS.nil ?_
      intro w2 hR2 hF9
      clear hF9
      repeat (first | replace hR2 := Later.of_drew hR2 | replace hR2 := Later.of_drewN hR2 | replace hR2 := Later.of_alloc hR2)
      have HC0 := hid (hR2.cell c0)
      have HA02 := hid (HA0.out.later hR2); have HA12 := hid (HA1.out.later hR2)
      have HK2 := hid (HKZ.out.more hR2)
      have HG2 : Hid (g 0 ≤ w2.heap.size) := hid (Nat.le_trans HG1.out hR2.size)
      have HPW : Hid (P < w2.heap.size) := hid (Nat.lt_of_lt_of_le hlp hR2.size)
      have HH2 : Hid (T = 165 → ∀ u, w2.heap[A]? = some (.cells #[u] 167 (0, 0)) → ∀ b, u.ownBlock = some b → b < g 1 ∧ b ≠ P) := hid (fun e u hu => HHS.out e u (by rw [← hR2.block A hAw]; exact hu))
      clear hR2 c0 c1 hlp
      change wpList _ _ _ _ _ _
      have HLM : Hid ((l ++ m).length ≤ 140737488355328) := hid (by have := HLEN.out; omega)
      have hT := HT.out
      rcases hT with rfl | rfl | rfl | rfl
      all_goals
        go_wp2_with fail
        first
        | refine (j_cnt HA02.out HA12.out HFL.out HFM.out HAP.out HG2.out P HPA.out).mono ?_
        | refine (j_sum HA02.out HA12.out HFL.out HFM.out HAP.out HG2.out P HPA.out).mono ?_
        | refine (j_set HA02.out HA12.out HFL.out HFM.out HAP.out HG2.out P HPA.out HPW.out (HH2.out (by simp))).mono ?_
        | refine (j_ch HA02.out HA12.out HFL.out HFM.out HAP.out HG2.out P HPA.out).mono ?_
        rintro e w4 ⟨rfl, ha4, hk4⟩
        have HA4 := hid ha4
        have c0 := hk4.cell (p := ⟨P, 0, none⟩) (.inr rfl) HC0.out
        have hlp := cell_lt c0
        have HK4 := hid (HK2.out.trans (hk4.mono fun b _ hb => .inl (by have := HG0.out; omega)))
        have HLW := hid (later_keep HLZ.out HK4.out (by rw [HBZ.out]; exact HLZ.out.size))
        have HRX := hid (HK4.out.obj (by rw [HBZ.out]; exact HRR.out) HRZ.out)
        clear ha4 hk4
        go_wp2_with fail
        first
        | refine (v_cnt HA4.out HLM.out).mono ?_
        | refine (v_sum HA4.out HLM.out).mono ?_
        | refine (v_set HA4.out HLM.out).mono ?_
        | refine (v_ch HA4.out HLM.out).mono ?_
        rintro e w5 ⟨rfl, hL5⟩
        have HL5 := hid (Later.trans _ _ _ HLW.out hL5)
        have HR5 := hid (hL5.obj HRX.out)
        rw [← HX.out]
        clear hL5 c0 hlp
        have q0 := cell_obj (i := 0) HR5.out rfl
        have q1 := cell_obj (i := 1) HR5.out rfl
        have q2 := cell_obj (i := 2) HR5.out rfl
        have f0 := free_obj (i := 0) HR5.out
        have f1 := free_obj (i := 1) HR5.out
        have f2 := free_obj (i := 2) HR5.out
        have hl := cell_lt q0
        go_wp2_with fail
        clear q0 q1 q2 f0 f1 f2
        obtain ⟨wf, hwf⟩ : ∃ wf, wf = put3 w5 R ⟨xk, xn, xt⟩ := ⟨_, rfl⟩
        obtain ⟨e0, e1, e2⟩ := put3_cells HR5.out ⟨xk, xn, xt⟩
        have HPF := hid (put3_later HL5.out (Nat.le_of_eq HR.out.symm) ⟨xk, xn, xt⟩)
        rw [← hwf] at e0 e1 e2 HPF
        change bodyPost _ _ _ _ _ (put3 w5 R ⟨xk, xn, xt⟩)
        rw [← hwf]
        clear hwf
        exact bodyPost_ret (v := .tuple #[Val.v ⟨xk, xn, xt⟩, .nilIface]) (by simp [results, Tryd.results15, go_sem, e0, e1, e2]) rfl ⟨HPF.out, by rw [if_pos HGD.out, ← HX.out]⟩
  · have HBD := hid hgood
    rw [if_neg hgood]
    clear hgood
    unfold rangeE
    have hlR := (Array.getElem?_eq_some_iff.1 HR3.out).1
    have p0 := cell_obj (i := 0) HR3.out rfl
    have p1 := cell_obj (i := 1) HR3.out rfl
    have p2 := cell_obj (i := 2) HR3.out rfl
    have f0 := free_obj (i := 0) HR3.out
    have f1 := free_obj (i := 1) HR3.out
    have f2 := free_obj (i := 2) HR3.out
    go_wp2_with fail
    clear p0 p1 p2 f0 f1 f2
    obtain ⟨wf, hwf⟩ : ∃ wf, wf = (put3 w3 R nilV).alloc (.cells #[.int .i64 nilV.k, .int .i64 nilV.n, .string nilV.t] 25 (0, 0)) := ⟨_, rfl⟩
    obtain ⟨e0, e1, e2⟩ := put3_cells HR3.out nilV
    have hPF := put3_later HL3.out (Nat.le_of_eq HR.out.symm) nilV
    replace e0 := (Later.alloc (put3 w3 R nilV) (.cells #[.int .i64 nilV.k, .int .i64 nilV.n, .string nilV.t] 25 (0, 0))).cell e0
    replace e1 := (Later.alloc (put3 w3 R nilV) (.cells #[.int .i64 nilV.k, .int .i64 nilV.n, .string nilV.t] 25 (0, 0))).cell e1
    replace e2 := (Later.alloc (put3 w3 R nilV) (.cells #[.int .i64 nilV.k, .int .i64 nilV.n, .string nilV.t] 25 (0, 0))).cell e2
    have HPF := hid (Later.trans _ _ _ hPF (Later.alloc (put3 w3 R nilV) (.cells #[.int .i64 nilV.k, .int .i64 nilV.n, .string nilV.t] 25 (0, 0))))
    rw [← hwf] at e0 e1 e2 HPF
    change bodyPost _ _ _ _ _ ((put3 w3 R nilV).alloc (.cells #[.int .i64 nilV.k, .int .i64 nilV.n, .string nilV.t] 25 (0, 0)))
    rw [← hwf]
    clear hwf hPF
    exact bodyPost_ret (v := .tuple #[nilV.v, rangeE]) (by simp [results, Tryd.results15, go_sem, e0, e1, e2, rangeE]) rfl ⟨HPF.out, by rw [if_neg HBD.out]⟩
end Go.Proofs.YtcmpjdnbjhkhdaaDoor
