/-
  PROVED HERE: the walk of streamwrightlaw2.WireBack.
-/
import Derived.Test.YthfgjmdmcoogpaaDoorBackParts
import Derived.Test.YthfgjmdmcoogpaaDoorSameRows
import Derived.Test.YthfgjmdmcoogpaaDoorCopied
import Derived.Test.YthfgjmdmcoogpaaDoorTold
import Derived.Test.YthfgjmdmcoogpaaDoorPutRows
namespace Go.Proofs.YthfgjmdmcoogpaaDoor
set_option linter.unusedSimpArgs false
set_option linter.unusedVariables false
open Go.RowKit

def OpenYes (w : World) (l : List UInt8) (k : Int) (e : Ending) (w' : World) : Prop := ∃ v, e = .returned (.tuple #[v, .int .i64 k, .nilIface]) ∧ w'.ownsRow w.heap.size 5 1 v l.length (byteCells l) ∧ Later w w'
theorem open_yes (v : Value) (a l z : List UInt8) (w : World) (h : IsBytes w v (a ++ (sealed l ++ z))) (ha : a.length ≤ 1048576) (hl : l.length ≤ 1048576) : Calls Tryd.prog 40 #[v, .int .i64 (a.length : Nat)] w (OpenYes w l ((a.length : Int) + 8 + l.length)) := by
  rw [← List.append_assoc] at h
  refine (open_any v _ a.length w h (by simp [Lit.wf, IntKind.min, IntKind.max, IntKind.bits, IntKind.signed]; omega)).mono ?_
  intro e w' hT
  rw [open_sealed a l z (by omega)] at hT
  obtain ⟨v6, rfl, ho, hL⟩ := hT
  exact ⟨v6, rfl, ho, hL⟩
def OpenNo (w : World) (e : Ending) (w' : World) : Prop := ∃ v, e = .returned (.tuple #[v, .int .i64 0, .iface 33 (.int .i64 8)]) ∧ Later w w'
theorem open_no (v : Value) (l : List UInt8) (k : Nat) (y : UInt8) (w : World) (h : IsBytes w v ((sealed l).set k y)) (hl : l.length ≤ 1048576) (h4 : 4 ≤ k) (hk : k < (sealed l).length) (hy : y ≠ (sealed l)[k]) : Calls Tryd.prog 40 #[v, .int .i64 0] w (OpenNo w) := by
  refine (open_any v _ 0 w h (by decide)).mono ?_
  intro e w' hT
  rw [open_turned l k y (by omega) h4 hk hy] at hT
  obtain ⟨v6, rfl, ho, hL⟩ := hT
  exact ⟨v6, rfl, hL⟩
def TrueB (w : World) (e : Ending) (w' : World) : Prop := e = .returned (.bool true) ∧ Later w w'
set_option maxRecDepth 100000 in
set_option maxHeartbeats 8000000 in
theorem back_walk (vb va vz vr : Value) (lb la lz : List UInt8) (at_ turn : Int) (rows : List Row) (w : World) (hb : IsBytes w vb lb) (ha : IsBytes w va la) (hz : IsBytes w vz lz) (hr : IsRows w vr rows) (hg : Laid w)
    (hbl : lb.length ≤ 1048576) (hal : la.length ≤ 1048576) (hzl : lz.length ≤ 1048576) (hrl : rows.length ≤ 1048576) (hf : ∀ r ∈ rows, RowFine r) (hsz : (encRows rows).length ≤ 20000000) :
    Calls Tryd.prog 6 #[vb, va, vz, .int .i64 at_, .int .i64 turn, vr] w (TrueB w) := by
  obtain ⟨ii, hi, hz0, hz1, hz2⟩ := info_parts infoU8
  have HI := hid hi; have HZ0 := hid hz0; have HZ1 := hid hz1; have HZ2 := hid hz2; clear hi hz0 hz1 hz2
  have HB := hid hb; have HA := hid ha; have HZ := hid hz; have HR := hid hr; have HG := hid hg
  have HBL := hid hbl; have HAL := hid hal; have HZL := hid hzl; have HRL := hid hrl; have HF := hid hf; have HSZ := hid hsz
  obtain ⟨pb, cb, rfl, hcb, hcbm, -, -⟩ := hb
  obtain ⟨pa, ca, rfl, hca, hcam, -, -⟩ := ha
  obtain ⟨pz, cz, rfl, hcz, hczm, -, -⟩ := hz
  clear hr hg hbl hal hzl hrl hf hsz hcb hcbm hca hcam hcz hczm
  go_enter Tryd.func6, Tryd.ntmps6
  go_wp2_with fail
  refine (copied_any _ lb _ HB.out (by have := HBL.out; omega)).mono ?_
  rintro e w1 ⟨v1, rfl, ho1, hL1⟩
  have HO1 := hid ho1; have HL1 := hid hL1
  clear ho1 hL1
  go_wp2_with fail
  refine (seal_any v1 lb _ ((owned_bytes HO1.out).bytes_mono fun _ _ => trivial) (by have := HBL.out; omega)).mono ?_
  rintro e w2 ⟨vs, rfl, ho2, hL2⟩
  rw [sealed_length] at ho2
  have HO2 := hid ho2
  have HL2 := hid (Later.trans _ _ _ HL1.out hL2)
  have HSB : Hid (BytesIn (fun b => b < w2.heap.size) w2 vs (sealed lb)) := hid (by
    have h := ho2
    rw [← sealed_length] at h
    exact (owned_bytes h).blt)
  obtain ⟨sa, cs, rfl⟩ := ownsRow_slice ho2
  clear ho2 hL2
  have hb0 : ¬ (134217728 : Int) < (lb.length : Int) := by have := HBL.out; omega
  have hb1 : ¬ 134217728 < lb.length := by have := HBL.out; omega
  have hb2 : ((((lb.length + 8 : Nat) : Int)) != (lb.length : Int) + 8) = false := by simp
  go_wp2_with fail
  refine (copied_any _ la _ (HA.out.bytes_later HL2.out) (by have := HAL.out; omega)).mono ?_
  rintro e w3 ⟨v3, rfl, ho3, hL3⟩
  have HO3 := hid ho3
  have HL3 := hid (Later.trans _ _ _ HL2.out hL3)
  have HSB3 := hid (HSB.out.bytes_later hL3)
  have HW23 := hid hL3.size
  clear ho3 hL3 hb0 hb1 hb2
  go_wp2_with (at_builtin; go_loud (refine wpList_put_bytes rfl _ _ 76 rfl w2.heap.size 5 ii Tryd.underlying76 HI.out HZ0.out HZ1.out HZ2.out _ la rfl HO3.out _ _ (sealed lb) rfl HSB3.out ?c2 ?c3 ?_))
  case c2 => have := HAL.out; have := HBL.out; rw [sealed_length]; omega
  case c3 => exact HW23.out
  intro v4 w4' hp4
  have HP4 := hid hp4
  have HL4 := hid (put_over HL3.out HO3.out HL2.out.size hp4)
  have HSB4 := hid (HSB3.out.bytes_kept hp4.keep fun b hb e => by have := (owns_block HO3.out b e.symm).1; omega)
  have HW24 := hid (Nat.le_trans HW23.out hp4.keep.size)
  clear hp4
  go_wp2_with (at_builtin; go_loud (refine wpList_put_bytes rfl _ _ 76 rfl w2.heap.size 5 ii Tryd.underlying76 HI.out HZ0.out HZ1.out HZ2.out _ (la ++ sealed lb) rfl HP4.out.own _ _ lz rfl (HZ.out.bytes_later HL4.out) ?c2 ?c3 ?_))
  case c2 => have := HAL.out; have := HBL.out; have := HZL.out; rw [List.length_append, sealed_length]; omega
  case c3 => exact HW24.out
  intro v5 w5 hp5
  have HB5 := hid (owned_bytes hp5.own)
  have HL5 := hid (put_over HL4.out HP4.out.own HL2.out.size hp5)
  have HSB5 := hid (HSB4.out.bytes_kept hp5.keep fun b hb e => by have := (owns_block HP4.out.own b e.symm).1; omega)
  clear hp5
  go_wp2_with fail
  refine (open_yes v5 la lb lz _ (HB5.out.bytes_mono fun _ _ => trivial) HAL.out HBL.out).mono ?_
  rintro e w6 ⟨v6, rfl, ho6, hL6⟩
  have HL6 := hid (Later.trans _ _ _ HL5.out hL6)
  have HSB6 := hid (HSB5.out.bytes_later hL6)
  have hcv1 := (owned_bytes ho6).string (src := 76) (dst := 9) Tryd.underlying76 Tryd.underlying5 Tryd.underlying9
  have hcv2 := (HB.out.bytes_later HL6.out).string (src := 76) (dst := 9) Tryd.underlying76 Tryd.underlying5 Tryd.underlying9
  obtain ⟨s6, c6, rfl⟩ := ownsRow_slice ho6
  have hen : ((la.length : Int) + 8 + lb.length != wrap64 ((la.length : Int) + ((lb.length : Int) + 8))) = false := by
    have : (la.length : Int) + 8 + lb.length = wrap64 ((la.length : Int) + ((lb.length : Int) + 8)) := by have := HAL.out; have := HBL.out; unfold wrap64; omega
    rw [← this]; simp
  clear ho6 hL6 HP4 HO3 HB5 HSB3 HSB4 HSB5
  go_wp2_with fail
  clear hcv1 hcv2 hen
  refine (pick_any at_ _ (lb.length + 4) _ (by (try unfold wrap64); omega) (by omega) (by have := HBL.out; omega)).mono ?_
  rintro e w7 ⟨r, rfl, hr, rfl⟩
  obtain ⟨K, hK⟩ : ∃ K, K = 4 + r := ⟨_, rfl⟩
  have hwK : wrap64 (4 + (r : Int)) = (K : Int) := by have := HBL.out; unfold wrap64; omega
  have HK := hid (show 4 ≤ K ∧ K < lb.length + 8 by omega)
  clear hK hr
  go_wp2_with fail
  simp only [hwK]
  refine (copied_any _ (sealed lb) _ (HSB6.out.bytes_mono fun _ _ => trivial) (by have := HBL.out; rw [sealed_length]; omega)).mono ?_
  rintro e w8 ⟨v8, rfl, ho8, hL8⟩
  have HL8 := hid (Later.trans _ _ _ HL6.out hL8)
  have HB8 := hid (owned_bytes ho8)
  obtain ⟨g, c8, rfl, hgw, cur8, hob8⟩ : ∃ g c8, v8 = .slice (some ⟨g, 0, none⟩) (lb.length + 8) c8 ∧ w7.heap.size ≤ g ∧ ∃ cur : Array Value, w8.heap[g]? = some (.cells cur 5 (0, 0)) := by
    obtain ⟨h1, ⟨h2, h3⟩ | ⟨g, cap, cur, h2, h3, h4, h5⟩⟩ := ho8
    · rw [sealed_length] at h3; omega
    · rw [sealed_length] at h2
      exact ⟨g, cap, h2, h3, cur, h4⟩
  have HGW := hid hgw
  have HOB8 := hid hob8
  have hkl : K < (sealed lb).length := by rw [sealed_length]; exact HK.out.2
  obtain ⟨b9, o9, e9, -, q0⟩ : ∃ b o, (some ⟨g, 0, none⟩ : Option Addr) = some ⟨b, o, none⟩ ∧ True ∧ w8.cell? ⟨b, o + K, none⟩ = some (.int .u8 (sealed lb)[K].toNat) := by
    obtain ⟨a9, c9, e9, -, -, -, hel9⟩ := HB8.out
    simp only [Value.slice.injEq] at e9
    obtain ⟨rfl, -, rfl⟩ := e9
    obtain ⟨b, o, h1, h2, h3⟩ := byte_cell hel9 hkl
    exact ⟨b, o, h1, trivial, h3⟩
  simp only [Option.some.injEq, Addr.mk.injEq, and_true] at e9
  obtain ⟨rfl, rfl⟩ := e9
  have HKL := hid hkl
  obtain ⟨ch, hch⟩ : ∃ ch, ch = (sealed lb)[K]'HKL.out := ⟨_, rfl⟩
  have HCH := hid hch
  rw [← hch] at q0
  rw [Nat.zero_add] at q0
  have hkn : (K : Int) < (lb.length : Int) + 8 := by have := HK.out; omega
  have hkn' : K < lb.length + 8 := HK.out.2
  clear hch hkl ho8 hgw hob8 hL8
  go_wp2_with fail
  clear hwK
  refine wp_region_plan (by kernel_rfl) (by kernel_rfl) [] [12] (by kernel_rfl) (fun _ _ d _ _ h => by cases d <;> exact h) (Later) (Later.refl) (Later.trans) (kinds [(7, fun v _ => ∃ r : Nat, v = .int .i64 r ∧ r < 255)]) (kinds_still (by simp only [List.mem_cons, List.not_mem_nil, or_false, forall_eq]; exact fun _ _ _ _ h => h)) ?_
  simp only [body, tail, numbered, Nat.reduceAdd, List.filter_cons, List.filter_nil, List.contains_cons, List.contains_nil, Nat.reduceBEq, Bool.or_false, Bool.or_true, Bool.false_or, Bool.true_or, Bool.not_true, Bool.not_false, Bool.and_true, Bool.and_false, Bool.true_and, Bool.false_and, if_true, if_false, reduceIte, Bool.false_eq_true, List.map_cons, List.map_nil]
  simp only [Pures]
  refine LexS.out ?_
  iterate 7
    first
    | (refine LexS.skip rfl ?_; simp only [Act.put, List.setIfInBounds_toArray, List.set])
    | (refine LexS.one' rfl rfl ?_
       apply Exists.intro
       refine ⟨fun w hR hF => ?_, ?_⟩
       · have hP := hR
         repeat (first | replace hP := Later.of_drew hP | replace hP := Later.of_drewN hP | replace hP := Later.of_alloc hP)
         have hcs := hR.cells
         have zq0 := hP.cell q0
         clear hR hF hP
         go_simp
         first | done | rfl
       simp only [Act.put, List.setIfInBounds_toArray, List.set])
  refine LexS.any rfl rfl (fun w hR hF => ?_) ?_
  · have hP := hR
    repeat (first | replace hP := Later.of_drew hP | replace hP := Later.of_drewN hP | replace hP := Later.of_alloc hP)
    have hsz := hP.size
    have zq0 := hP.cell q0
    clear hF hR q0
    unfold Runs
    go_simp
    refine yield_enter ?_
    refine (pick_any turn 255 255 _ rfl (by decide) (by decide)).mono ?_
    rintro e w' ⟨r2, rfl, hr2, rfl⟩
    exact ⟨_, rfl, (Later.refl _), ⟨r2, rfl, hr2⟩⟩
  rintro vk_ ⟨wk_, hRk_, hFk_⟩
  obtain ⟨r2, rfl, hr2⟩ := hFk_ _ List.mem_cons_self _ rfl
  clear hFk_ hRk_ wk_
  simp only [Act.put, List.setIfInBounds_toArray, List.set]
  have hw2 : IntKind.i64.wrap (1 + (r2 : Int)) = 1 + (r2 : Int) := IntWalk.i64_in _ (by omega)
  have hu2 : IntKind.u8.wrap (1 + (r2 : Int)) = 1 + (r2 : Int) := by simp [IntKind.wrap, IntKind.bits, IntKind.signed]; omega
  obtain ⟨y, hy, hyc⟩ := xor_byte ch r2 hr2
  iterate 4
    first
    | (refine LexS.skip rfl ?_; simp only [Act.put, List.setIfInBounds_toArray, List.set])
    | (refine LexS.one' rfl rfl ?_
       apply Exists.intro
       refine ⟨fun w hR hF => ?_, ?_⟩
       · have hP := hR
         repeat (first | replace hP := Later.of_drew hP | replace hP := Later.of_drewN hP | replace hP := Later.of_alloc hP)
         have hcs := hR.cells
         have zq0 := hP.cell q0
         clear hR hF hP
         go_simp
         first | done | rfl
       simp only [Act.put, List.setIfInBounds_toArray, List.set])
  refine LexS.nil ?_
  intro w9 hR9 hF9
  clear hF9
  repeat (first | replace hR9 := Later.of_drew hR9 | replace hR9 := Later.of_drewN hR9 | replace hR9 := Later.of_alloc hR9)
  have HL9 := hid (Later.trans _ _ _ HL8.out hR9)
  have HB9 := hid (HB8.out.bytes_later hR9)
  have q1 := hR9.cell q0
  have z1 := free_obj (i := K) (hR9.obj HOB8.out)
  have HYC := hid hyc
  clear hR9 q0 hw2 hu2 hyc hy
  go_upto_region 16 with (fail)
  obtain ⟨w10, hw10⟩ : ∃ w10, w10 = w9.setCell ⟨g, K, none⟩ (.int .u8 y.toNat) := ⟨_, rfl⟩
  have HB10 : Hid (IsBytes w10 (.slice (some ⟨g, 0, none⟩) (lb.length + 8) c8) ((sealed lb).set K y)) := hid (by
    have := bytes_set HB9.out HKL.out y
    rw [Nat.zero_add, ← hw10] at this
    exact this.bytes_mono fun _ _ => trivial)
  have HL10 : Hid (Later w w10) := hid (by
    rw [hw10]
    exact ((HL9.out.keeps (fun _ => True)).setCell (p := ⟨g, K, none⟩) (.inr (Nat.le_trans HL6.out.size HGW.out)) _).later)
  rw [← hw10]
  clear hw10 q1 z1 hkn hkn'
  go_wp2_with fail
  refine (open_no _ lb K y _ HB10.out HBL.out HK.out.1 HKL.out (by rw [← HCH.out]; exact HYC.out)).mono ?_
  rintro e w11 ⟨v11, rfl, hL11⟩
  have HL11 := hid (Later.trans _ _ _ HL10.out hL11)
  clear hL11
  go_wp2_with fail
  refine (told_errno 8 _ (HG.out.later HL11.out)).mono ?_
  rintro e w12 ⟨rfl, hL12⟩
  have HL12 := hid (Later.trans _ _ _ HL11.out hL12)
  clear hL12
  go_wp2_with fail
  refine (put_rows w12.heap.size (.slice none 0 0) vr [] rows _ (fun b => b < w12.heap.size) ((HR.out.rows_later HL12.out).rlt) (fun b hb => ⟨by simp [Value.ownBlock], hb⟩) HF.out ⟨rfl, .inl ⟨rfl, rfl⟩⟩ (Nat.le_refl _) (by have := HSZ.out; rw [List.nil_append]; omega)).mono ?_
  rintro e w13 ⟨v13, rfl, hp13⟩
  have HL13 := hid (Later.trans _ _ _ HL12.out (hp13.later rfl))
  have HB13 : Hid (IsBytes w13 v13 (encRows rows)) := hid ((owned_bytes hp13.own).bytes_mono fun _ _ => trivial)
  clear hp13
  go_wp2_with fail
  refine (rows_all v13 (encRows rows) _ HB13.out (by have := HSZ.out; omega)).mono ?_
  rintro e w14 ⟨hL14, hT14⟩
  have HL14 := hid (Later.trans _ _ _ HL13.out hL14)
  clear hL14
  cases hd : dAll (encRows rows) with
  | none =>
    rw [hd] at hT14
    obtain rfl := hT14
    go_wp2_with fail
    refine (law_valid vr rows _ (HR.out.rows_later HL14.out)).mono ?_
    rintro e w15 ⟨b, rfl, hbv, hL15⟩
    have HL15 := hid (Later.trans _ _ _ HL14.out hL15)
    clear hL15
    cases b with
    | true =>
      have := dAll_enc (by have := HRL.out; omega) (hbv rfl) HF.out
      rw [hd] at this
      cases this
    | false =>
      clear hbv hd
      go_wp2_with fail
      refine (same_rows [] rows _ _ _ ⟨none, 0, rfl, Nat.le_refl _, by unfold maxLen; omega, fun _ => rfl, fun i hi => (by cases hi)⟩ (HR.out.rows_later HL15.out)).mono ?_
      rintro e w16 ⟨rfl, hL16⟩
      have HL16 := hid (Later.trans _ _ _ HL15.out hL16)
      clear hL16
      go_wp2_with fail
      go_ret
      exact ⟨rfl, HL16.out⟩
  | some xs =>
    rw [hd] at hT14
    obtain ⟨v14, rfl, ho14⟩ := hT14
    have HO14 := hid ho14
    have HD := hid hd
    clear hd ho14
    go_wp2_with fail
    refine (law_valid vr rows _ (HR.out.rows_later HL14.out)).mono ?_
    rintro e w15 ⟨b, rfl, hbv, hL15⟩
    have HL15 := hid (Later.trans _ _ _ HL14.out hL15)
    have HX15 : Hid (IsRows w15 v14 xs) := hid ((HO14.out.own.rows.rows_mono fun _ _ => trivial).rows_later hL15)
    have HSAME : Hid (b = true → sameR xs rows = true) := hid fun h => by
      have h2 := dAll_enc (by have := HRL.out; omega) (hbv h) HF.out
      rw [HD.out] at h2
      rw [Option.some.inj h2]
      exact sameR_refl rows
    clear hL15 hbv
    go_wp2_with fail
    refine (same_rows xs rows _ _ _ HX15.out (HR.out.rows_later HL15.out)).mono ?_
    rintro e w16 ⟨rfl, hL16⟩
    have HL16 := hid (Later.trans _ _ _ HL15.out hL16)
    clear hL16
    cases b with
    | true =>
      rw [HSAME.out rfl]
      go_wp2_with fail
      go_ret
      exact ⟨rfl, HL16.out⟩
    | false =>
      go_wp2_with fail
      go_ret
      exact ⟨rfl, HL16.out⟩
end Go.Proofs.YthfgjmdmcoogpaaDoor
