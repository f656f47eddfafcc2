/-
  PROVED HERE: the walk of streamwrightlaw12.DiskPacks.
-/
import Derived.Test.YthfgjmdmcoogpaaDoorDiskPack
import Derived.Test.YthfgjmdmcoogpaaDoorDiskUnpack
import Derived.Test.YthfgjmdmcoogpaaDoorDiskSame
import Derived.Test.YthfgjmdmcoogpaaDoorTold
namespace Go.Proofs.YthfgjmdmcoogpaaDoor
set_option linter.unusedSimpArgs false
set_option linter.unusedVariables false
open Go.RowKit

def OpenBad (w : World) (k : Int) (e : Ending) (w' : World) : Prop := ∃ v, e = .returned (.tuple #[v, .int .i64 0, .iface 33 (.int .i64 k)]) ∧ Later w w'
theorem open_bad (v : Value) (l : List UInt8) (k : Int) (w : World) (h : IsBytes w v l) (ho : openB l 0 = ([], 0, k)) (hk : k ≠ 0) : Calls Tryd.prog 40 #[v, .int .i64 0] w (OpenBad w k) := by
  refine (open_any v l 0 w h (by decide)).mono ?_
  intro e w' hT
  rw [ho] at hT
  obtain ⟨v6, rfl, _, hL⟩ := hT
  refine ⟨v6, ?_, hL⟩
  unfold errVal
  rw [if_neg hk]
def UnpackErr (w : World) (k : Int) (e : Ending) (w' : World) : Prop := e = .returned (.tuple #[.agg #[.int .i64 0, .slice none 0 0, .slice none 0 0], .iface 33 (.int .i64 k)]) ∧ Later w w'
set_option maxRecDepth 100000 in
set_option maxHeartbeats 4000000 in
theorem unpack_err (v : Value) (l : List UInt8) (k : Int) (w : World) (h : IsBytes w v l) (ho : openB l 0 = ([], 0, k)) (hk : k ≠ 0) : Calls Tryd.prog 51 #[v] w (UnpackErr w k) := by
  have HV := hid h; have HOP := hid ho; have HKN := hid hk
  clear h ho hk
  go_enter Tryd.func51, Tryd.ntmps51
  go_wp2_with fail
  obtain ⟨T, hT⟩ : ∃ T, T = w.heap.size := ⟨_, rfl⟩
  obtain ⟨w1, hw1⟩ : ∃ w1, w1 = w.alloc (.cells #[.int .i64 0, .slice none 0 0, .slice none 0 0] 104 (0, 0)) := ⟨_, rfl⟩
  have HT1 : Hid (w1.heap[T]? = some (.cells #[.int .i64 0, .slice none 0 0, .slice none 0 0] 104 (0, 0))) := hid (by rw [hw1, hT]; exact obj_new _ _)
  have HL01 : Hid (Later w w1) := hid (by rw [hw1]; exact Later.alloc _ _)
  have HTW : Hid (T = w.heap.size) := hid hT
  rw [← hw1, ← hT]
  clear hw1 hT
  refine (open_bad v l k _ (HV.out.bytes_later HL01.out) HOP.out HKN.out).mono ?_
  rintro e w2 ⟨v2, rfl, hL2⟩
  have HT2 := hid (hL2.obj HT1.out)
  have HK2 := hid ((Later.trans _ _ _ HL01.out hL2).keeps (fun b => b < w.heap.size))
  have t0 := cell_obj (i := 0) HT2.out (v := .int .i64 0) rfl
  have t1 := cell_obj (i := 1) HT2.out (v := .slice none 0 0) rfl
  have t2 := cell_obj (i := 2) HT2.out (v := .slice none 0 0) rfl
  have z0 := free_obj (i := 0) HT2.out
  have z1 := free_obj (i := 1) HT2.out
  have z2 := free_obj (i := 2) HT2.out
  clear hL2
  go_wp2_with fail
  refine bodyPost_ret (v := .tuple #[.agg #[.int .i64 0, .slice none 0 0, .slice none 0 0], .iface 33 (.int .i64 k)]) ?_ rfl ⟨rfl, fin_later HK2.out (Nat.le_of_eq HTW.out.symm) _ _ _⟩
  rw [results_cell_tmp (t := 2) (u := 3) (ty := 104) rfl]
  go_simp
  try exact ⟨rfl, rfl, rfl⟩

theorem open_cut (l : List UInt8) (k : Nat) (hl : l.length ≤ 134217728) (hk : k < (sealed l).length) : openB ((sealed l).take k) 0 = ([], 0, 7) := by
  have hk' := hk
  rw [sealed_length] at hk'
  have hL : ((sealed l).take k).length = k := by rw [List.length_take, sealed_length]; omega
  unfold openB
  by_cases h8 : k < 8
  · rw [if_pos (.inr (.inr (by rw [hL]; omega)))]
  · rw [if_neg (by rw [hL]; omega), if_pos]
    refine .inr ?_
    have hb : be4 (((sealed l).take k).drop (0 : Int).toNat) = l.length := by
      have e : ((sealed l).take k).drop (0 : Int).toNat = w4 l.length ++ (w4 (crc l) ++ l).take (k - 4) := by
        show ((sealed l).take k).drop 0 = _
        rw [List.drop_zero]
        unfold sealed
        rw [List.take_append, List.take_of_length_le (by show 4 ≤ k; omega)]
        rfl
      rw [e, be4_append rfl, be4_w4 (by omega)]
    rw [hL, hb]
    omega
theorem open_self (l z : List UInt8) (hl : l.length ≤ 134217728) : openB (sealed l ++ z) 0 = (l, (8 : Int) + l.length, 0) := by
  have := open_sealed [] l z hl
  simpa using this

def TrueD (w : World) (e : Ending) (w' : World) : Prop := e = .returned (.bool true) ∧ Later w w'
set_option maxRecDepth 100000 in
set_option maxHeartbeats 8000000 in
theorem packs_walk (c : Chk) (v1 v2 : Value) (at_ : Int) (more : UInt8) (w : World) (h1 : OffsIn All w v1 c.offs) (h2 : HeldsIn All w v2 c.helds) (hg : Laid w) (hm : I64 c.mark) (hof : ∀ x ∈ c.offs, OffOk x) (hhe : ∀ x ∈ c.helds, HeldOk x) (hl : (encChk c).length ≤ 20000000) (hl1 : c.offs.length ≤ 1048576) (hl2 : c.helds.length ≤ 1048576) :
    Calls Tryd.prog 8 #[.agg #[.int .i64 c.mark, v1, v2], .int .i64 at_, .int .u8 more.toNat] w (TrueD w) := by
  obtain ⟨ii, hi, hz0, hz1, hz2⟩ := info_parts infoU8
  have HI := hid hi; have HZ0 := hid hz0; have HZ1 := hid hz1; have HZ2 := hid hz2; clear hi hz0 hz1 hz2
  have H1 := hid h1; have H2 := hid h2; have HG := hid hg; have HM := hid hm; have HOF := hid hof; have HHE := hid hhe; have HL := hid hl; have HL1 := hid hl1; have HL2 := hid hl2
  obtain ⟨a1, c1, rfl, -⟩ := h1
  obtain ⟨a2, c2, rfl, -⟩ := h2
  clear hg hm hof hhe hl hl1 hl2
  go_enter Tryd.func8, Tryd.ntmps8
  go_wp2_with fail
  obtain ⟨X, hX⟩ : ∃ X, X = w.heap.size := ⟨_, rfl⟩
  obtain ⟨w1, hw1⟩ : ∃ w1, w1 = w.alloc (.cells #[.int .i64 c.mark, .slice a1 c.offs.length c1, .slice a2 c.helds.length c2] 104 (0, 0)) := ⟨_, rfl⟩
  have HX1 : Hid (w1.heap[X]? = some (.cells #[.int .i64 c.mark, .slice a1 c.offs.length c1, .slice a2 c.helds.length c2] 104 (0, 0))) := hid (by rw [hw1, hX]; exact obj_new _ _)
  have HLW : Hid (Later w w1) := hid (by rw [hw1]; exact Later.alloc _ _)
  rw [← hw1, ← hX]
  clear hw1 hX
  refine (pack_any c _ _ _ (H1.out.offs_later HLW.out) (H2.out.helds_later HLW.out) HM.out HOF.out HHE.out HL.out HL1.out HL2.out).mono ?_
  rintro e w2 ⟨vs, rfl, ho2, hL2⟩
  obtain ⟨body, hbody⟩ : ∃ body, body = encChk c := ⟨_, rfl⟩
  rw [← hbody] at ho2
  have HBD := hid hbody
  have HBL : Hid (body.length ≤ 20000000) := hid (by rw [hbody]; exact HL.out)
  have HSB := hid (owned_bytes ho2).blt
  have HX2 := hid (hL2.obj HX1.out)
  have HLW2 := hid (Later.trans _ _ _ HLW.out hL2)
  rw [sealed_length] at ho2
  obtain ⟨sa, cs, rfl⟩ := ownsRow_slice ho2
  have HCS : Hid (body.length + 8 ≤ cs) := hid (by obtain ⟨a9, c9, e9, h9, -⟩ := HSB.out; simp only [Value.slice.injEq] at e9; rw [sealed_length] at h9; omega)
  clear ho2 hL2 hbody
  have x0 := cell_obj (i := 0) HX2.out (v := .int .i64 c.mark) rfl
  have x1 := cell_obj (i := 1) HX2.out (v := .slice a1 c.offs.length c1) rfl
  have x2 := cell_obj (i := 2) HX2.out (v := .slice a2 c.helds.length c2) rfl
  go_wp2_with fail
  refine (weight_any c _ _ _ (H1.out.offs_later HLW2.out) (H2.out.helds_later HLW2.out) HL2.out).mono ?_
  rintro e w3 ⟨n, rfl, hL3⟩
  have HX3 := hid (hL3.obj HX2.out)
  have HL3 := hid (Later.trans _ _ _ HLW2.out hL3)
  have HSB3 := hid (HSB.out.bytes_later hL3)
  clear hL3 x0 x1 x2
  by_cases hn : 2097151 < n
  · go_wp2_with fail
    go_ret
    exact ⟨rfl, HL3.out⟩
  have hlen8 : ¬ ((body.length : Int) + 8 < 8) := by omega
  have hlen8' : ¬ (((body.length + 8 : Nat) : Int) < 8) := by omega
  go_wp2_with fail
  refine (unpack_ok _ (sealed body) c ((8 : Int) + body.length) _ (HSB3.out.bytes_mono fun _ _ => trivial) (by rw [← HBD.out]; have := open_self body [] (by have := HBL.out; omega); rwa [List.append_nil] at this) HM.out HOF.out HHE.out HL.out HL1.out HL2.out).mono ?_
  rintro e w4 ⟨hL4, hT4⟩
  rw [if_pos (decide_eq_true (by rw [sealed_length]; omega))] at hT4
  obtain ⟨u1, u2, rfl, hu1, hu2⟩ := hT4
  have HU1 := hid hu1; have HU2 := hid hu2
  have HX4 := hid (hL4.obj HX3.out)
  have HSB4 := hid (HSB3.out.bytes_later hL4)
  have HL4 := hid (Later.trans _ _ _ HL3.out hL4)
  obtain ⟨p1, d1, rfl, -⟩ := hu1
  obtain ⟨p2, d2, rfl, -⟩ := hu2
  clear hL4 hn hlen8 hlen8'
  have hL5 := Later.alloc w4 (.cells #[.int .i64 c.mark, .slice p1 c.offs.length d1, .slice p2 c.helds.length d2] 104 (0, 0))
  go_upto_region 7 with (fail)
  have hZ5 := obj_new w4 (.cells #[.int .i64 c.mark, .slice p1 c.offs.length d1, .slice p2 c.helds.length d2] 104 (0, 0))
  obtain ⟨Z, hZ⟩ : ∃ Z, Z = w4.heap.size := ⟨_, rfl⟩
  obtain ⟨w5, hw5⟩ : ∃ w5, w5 = w4.alloc (.cells #[.int .i64 c.mark, .slice p1 c.offs.length d1, .slice p2 c.helds.length d2] 104 (0, 0)) := ⟨_, rfl⟩
  rw [← hZ, ← hw5] at hZ5
  rw [← hw5] at hL5
  rw [← hw5, ← hZ]
  have HX5 := hid (hL5.obj HX4.out)
  have HSB5 := hid (HSB4.out.bytes_later hL5)
  have HU1' := hid (HU1.out.offs_later hL5)
  have HU2' := hid (HU2.out.helds_later hL5)
  have HL5 := hid (Later.trans _ _ _ HL4.out hL5)
  clear hw5 hZ hL5
  have x0 := cell_obj (i := 0) HX5.out (v := .int .i64 c.mark) rfl
  have x1 := cell_obj (i := 1) HX5.out (v := .slice a1 c.offs.length c1) rfl
  have x2 := cell_obj (i := 2) HX5.out (v := .slice a2 c.helds.length c2) rfl
  have z0 := cell_obj (i := 0) hZ5 (v := .int .i64 c.mark) rfl
  have z1 := cell_obj (i := 1) hZ5 (v := .slice p1 c.offs.length d1) rfl
  have z2 := cell_obj (i := 2) hZ5 (v := .slice p2 c.helds.length d2) rfl
  clear hZ5
  go_wp2_with fail
  refine (same_chk c _ _ _ _ _ HU1'.out HU2'.out (H1.out.offs_later HL5.out) (H2.out.helds_later HL5.out) HL1.out HL2.out).mono ?_
  rintro e w6 ⟨rfl, hL6⟩
  have HSB6 := hid (HSB5.out.bytes_later hL6)
  have HL6 := hid (Later.trans _ _ _ HL5.out hL6)
  clear hL6 x0 x1 x2 z0 z1 z2
  go_wp2_with fail
  refine (pick12_any at_ _ (body.length + 8) _ (by (try unfold wrap64); omega) (by omega) (by have := HBL.out; omega)).mono ?_
  rintro e w7 ⟨k, rfl, hk, rfl⟩
  have HK := hid hk
  have hkc : k ≤ cs := by have := HCS.out; omega
  have hkc' : (k : Int) ≤ (cs : Int) := by omega
  have hk0 : (0 : Int) ≤ (k : Int) := by omega
  clear hk
  go_wp2_with fail
  have hcut : IsBytes w7 (.slice sa k cs) ((sealed body).take k) := by
    have h := HSB6.out
    have e1 : (body.length + 8) = (sealed body).length := (sealed_length body).symm
    have e2 : k = ((sealed body).take k).length := by rw [List.length_take, sealed_length]; have := HK.out; omega
    rw [e1] at h
    have h2 : BytesIn (fun b => b < w2.heap.size) w7 (.slice sa (sealed body).length cs) ((sealed body).take k ++ (sealed body).drop k) := by rw [List.take_append_drop]; exact h
    have h3 := bytes_prefix h2
    rw [← e2] at h3
    exact h3.bytes_mono fun _ _ => trivial
  refine (unpack_err _ _ 7 _ hcut (open_cut body k (by have := HBL.out; omega) (by rw [sealed_length]; exact HK.out)) (by decide)).mono ?_
  rintro e w8 ⟨rfl, hL8⟩
  have HSB8 := hid (HSB6.out.bytes_later hL8)
  have HL8 := hid (Later.trans _ _ _ HL6.out hL8)
  clear hL8 hcut hkc hkc' hk0
  go_upto_region 12 with (fail)
  have hL9 := Later.alloc w8 (.cells #[.int .i64 0, .slice none 0 0, .slice none 0 0] 104 (0, 0))
  obtain ⟨w9, hw9⟩ : ∃ w9, w9 = w8.alloc (.cells #[.int .i64 0, .slice none 0 0, .slice none 0 0] 104 (0, 0)) := ⟨_, rfl⟩
  rw [← hw9] at hL9
  rw [← hw9]
  have HSB9 := hid (HSB8.out.bytes_later hL9)
  have HL9 := hid (Later.trans _ _ _ HL8.out hL9)
  clear hL9 hw9
  go_wp2_with fail
  refine (told_errno 7 _ (HG.out.later HL9.out)).mono ?_
  rintro e w10 ⟨rfl, hL10⟩
  have HSB10 := hid (HSB9.out.bytes_later hL10)
  have HL10 := hid (Later.trans _ _ _ HL9.out hL10)
  have HSBX := hid HSB10.out.blt
  clear hL10
  go_wp2_with (at_builtin; go_loud (refine wpList_put_bytes rfl _ _ 76 rfl w10.heap.size 5 ii Tryd.underlying76 HI.out HZ0.out HZ1.out HZ2.out _ [] rfl ⟨rfl, .inl ⟨rfl, rfl⟩⟩ _ _ (sealed body) rfl HSB10.out ?c2 ?c3 ?_))
  case c2 => have := HBL.out; rw [sealed_length]; simp; omega
  case c3 => exact Nat.le_refl _
  intro v11 w11 hp11
  have HO11 := hid hp11.own
  have HSB11 := hid (HSBX.out.bytes_later (hp11.later rfl))
  have HL11 := hid (Later.trans _ _ _ HL10.out (hp11.later rfl))
  have HW11 := hid (hp11.later rfl).size
  clear hp11
  go_wp2_with (at_builtin; go_loud (refine wpList_put_byte rfl _ _ 76 rfl w10.heap.size 5 ii Tryd.underlying76 HI.out HZ0.out HZ1.out HZ2.out _ (sealed body) rfl (owns_later HO11.out (Later.alloc _ _)) w11.heap.size _ rfl (cell_obj (obj_new _ _) rfl) more rfl ?c4 ?c5 ?_))
  case c4 => have := HBL.out; rw [sealed_length]; omega
  case c5 => exact Nat.le_trans HW11.out (by simp)
  intro v12 w12 hp12
  have HSB12 := hid ((HSB11.out.bytes_later (Later.alloc _ _)).bytes_kept hp12.keep fun b hb e => by have := (owns_block HO11.out b e.symm).1; omega)
  have HL12 := hid (put_over (Later.trans _ _ _ HL11.out (Later.alloc _ _)) (owns_later HO11.out (Later.alloc _ _)) HL10.out.size hp12)
  have HO12 := hid hp12.own
  clear hp12
  go_wp2_with fail
  have hlong : IsBytes w12 v12 (sealed body ++ [more]) := (owned_bytes HO12.out).bytes_mono fun _ _ => trivial
  refine (unpack_ok v12 (sealed body ++ [more]) c ((8 : Int) + body.length) _ hlong (by rw [← HBD.out]; exact open_self body [more] (by have := HBL.out; omega)) HM.out HOF.out HHE.out HL.out HL1.out HL2.out).mono ?_
  rintro e w13 ⟨hL13, hT13⟩
  rw [if_neg (by rw [decide_eq_true_eq, List.length_append, sealed_length]; simp; omega)] at hT13
  obtain rfl := hT13
  have HSB13 := hid (HSB12.out.bytes_later hL13)
  have HL13 := hid (Later.trans _ _ _ HL12.out hL13)
  have HO13 := hid (owns_later HO12.out hL13)
  clear hL13 hlong
  go_upto_region 17 with (fail)
  have hL14 := Later.alloc w13 (.cells #[.int .i64 0, .slice none 0 0, .slice none 0 0] 104 (0, 0))
  obtain ⟨w14, hw14⟩ : ∃ w14, w14 = w13.alloc (.cells #[.int .i64 0, .slice none 0 0, .slice none 0 0] 104 (0, 0)) := ⟨_, rfl⟩
  rw [← hw14] at hL14
  rw [← hw14]
  have HSB14 := hid (HSB13.out.bytes_later hL14)
  have HO14 := hid (owns_later HO13.out hL14)
  have HL14 := hid (Later.trans _ _ _ HL13.out hL14)
  clear hL14 hw14
  go_wp2_with fail
  refine (told_errno 7 _ (HG.out.later HL14.out)).mono ?_
  rintro e w15 ⟨rfl, hL15⟩
  have HL15 := hid (Later.trans _ _ _ HL14.out hL15)
  have HO15 := hid (owns_later HO14.out hL15)
  clear hL15
  have hp4 : wrap64 ((body.length : Int) + 8 - 4) = (body.length : Int) + 4 := by have := HBL.out; unfold wrap64; omega
  go_wp2_with fail
  refine (pick12_any at_ _ (body.length + 4) _ (by (try unfold wrap64); omega) (by omega) (by have := HBL.out; omega)).mono ?_
  rintro e w16 ⟨r, rfl, hr, rfl⟩
  obtain ⟨K, hK⟩ : ∃ K, K = 4 + r := ⟨_, rfl⟩
  have hwK : wrap64 (4 + (r : Int)) = (K : Int) := by have := HBL.out; unfold wrap64; omega
  have HKK := hid (show 4 ≤ K ∧ K < body.length + 8 by omega)
  clear hK hr hp4
  have ho16 := HO15.out
  have HB16 := hid (owned_bytes HO15.out)
  obtain ⟨g, c8, rfl, hgw, cur8, hob8⟩ : ∃ g c8, v12 = .slice (some ⟨g, 0, none⟩) (body.length + 9) c8 ∧ w10.heap.size ≤ g ∧ ∃ cur : Array Value, w16.heap[g]? = some (.cells cur 5 (0, 0)) := by
    obtain ⟨h1, ⟨h2, h3⟩ | ⟨g, cap, cur, h2, h3, h4, h5⟩⟩ := ho16
    · rw [List.length_append, sealed_length] at h3; simp at h3
    · rw [List.length_append, sealed_length] at h2
      exact ⟨g, cap, h2, h3, cur, h4⟩
  have HGW := hid hgw
  have HOB8 := hid hob8
  have hkl : K < (sealed body ++ [more]).length := by rw [List.length_append, sealed_length]; have := HKK.out.2; simp; omega
  have HKL := hid hkl
  obtain ⟨b9, o9, e9, -, q0⟩ : ∃ b o, (some ⟨g, 0, none⟩ : Option Addr) = some ⟨b, o, none⟩ ∧ True ∧ w16.cell? ⟨b, o + K, none⟩ = some (.int .u8 (sealed body ++ [more])[K].toNat) := by
    obtain ⟨a9, c9, e9, -, -, -, hel9⟩ := HB16.out
    simp only [Value.slice.injEq] at e9
    obtain ⟨rfl, -, rfl⟩ := e9
    obtain ⟨b, o, h1, h2, h3⟩ := byte_cell hel9 hkl
    exact ⟨b, o, h1, trivial, h3⟩
  simp only [Option.some.injEq, Addr.mk.injEq, and_true] at e9
  obtain ⟨rfl, rfl⟩ := e9
  have hkb : K < (sealed body).length := by rw [sealed_length]; exact HKK.out.2
  have HKB := hid hkb
  have hget : (sealed body ++ [more])[K]'hkl = (sealed body)[K]'hkb := List.getElem_append_left hkb
  replace q0 := q0.trans (congrArg (fun c : UInt8 => some (Value.int .u8 (c.toNat : Int))) hget)
  obtain ⟨ch, hch⟩ : ∃ ch, ch = (sealed body)[K]'HKB.out := ⟨_, rfl⟩
  have HCH := hid hch
  rw [← hch] at q0
  rw [Nat.zero_add] at q0
  have hkn : (K : Int) < (body.length : Int) + 9 := by have := HKK.out; omega
  have hkn' : K < body.length + 9 := by have := HKK.out.2; omega
  have z1 := free_obj (i := K) HOB8.out
  obtain ⟨y, hy, hyc⟩ := xor_byte ch 63 (by decide)
  have hy : bits .xor .u8 (ch.toNat : Int) 64 = (y.toNat : Int) := hy
  have HYC := hid hyc
  clear hget hkb hch hkl ho16 hgw hob8 hyc
  have HC8 : Hid (body.length + 9 ≤ c8) := hid (by
    obtain ⟨a9, c9, e9, h9, -⟩ := HB16.out
    simp only [Value.slice.injEq] at e9
    rw [List.length_append, sealed_length] at h9
    simp at h9
    omega)
  go_upto_region 19 with (fail)
  simp only [hwK]
  go_upto_region 20 with (fail)
  obtain ⟨w17, hw17⟩ : ∃ w17, w17 = w16.setCell ⟨g, K, none⟩ (.int .u8 y.toNat) := ⟨_, rfl⟩
  have HB17 : Hid (IsBytes w17 (.slice (some ⟨g, 0, none⟩) (body.length + 8) c8) ((sealed body).set K y)) := hid (by
    have h := bytes_set (n := body.length + 9) HB16.out HKL.out y
    rw [Nat.zero_add, ← hw17, List.set_append_left _ _ HKB.out] at h
    have h3 := bytes_prefix h
    rw [List.length_set, sealed_length] at h3
    exact h3.bytes_mono fun _ _ => trivial)
  have HL17 : Hid (Later w w17) := hid (by
    rw [hw17]
    exact ((HL15.out.keeps (fun _ => True)).setCell (p := ⟨g, K, none⟩) (.inr (Nat.le_trans HL10.out.size HGW.out)) _).later)
  rw [← hw17]
  clear hw17 q0 z1 hkn hkn' hwK hy
  have hc1 : body.length + 8 ≤ c8 := by have := HC8.out; omega
  have hc2 : ((body.length + 8 : Nat) : Int) ≤ (c8 : Int) := by omega
  have hc3 : (body.length : Int) + 8 ≤ (c8 : Int) := by omega
  have hc4 : (0 : Int) ≤ (body.length : Int) + 8 := by omega
  have hc5 : ((body.length : Int) + 8).toNat = body.length + 8 := by omega
  go_wp2_with fail
  trace_state
  refine (unpack_err _ _ 8 _ HB17.out (open_turned body K y (by have := HBL.out; omega) HKK.out.1 HKB.out (by rw [← HCH.out]; exact HYC.out)) (by decide)).mono ?_
  rintro e w18 ⟨rfl, hL18⟩
  have HL18 := hid (Later.trans _ _ _ HL17.out hL18)
  clear hL18 hc1 hc2 hc3 hc4 hc5
  go_upto_region 21 with (fail)
  have HT19 := hid (obj_new w18 (.cells #[.int .i64 0, .slice none 0 0, .slice none 0 0] 104 (0, 0)))
  have hL19 := Later.alloc w18 (.cells #[.int .i64 0, .slice none 0 0, .slice none 0 0] 104 (0, 0))
  obtain ⟨T, hT⟩ : ∃ T, T = w18.heap.size := ⟨_, rfl⟩
  obtain ⟨w19, hw19⟩ : ∃ w19, w19 = w18.alloc (.cells #[.int .i64 0, .slice none 0 0, .slice none 0 0] 104 (0, 0)) := ⟨_, rfl⟩
  rw [← hw19] at hL19
  rw [← hw19, ← hT] at HT19
  rw [← hw19, ← hT]
  have HL19 := hid (Later.trans _ _ _ HL18.out hL19)
  clear hL19 hw19 hT
  go_wp2_with fail
  refine (told_errno 8 _ (HG.out.later HL19.out)).mono ?_
  rintro e w20 ⟨rfl, hL20⟩
  have HL20 := hid (Later.trans _ _ _ HL19.out hL20)
  have t0 := cell_obj (i := 0) (hL20.obj HT19.out) (v := .int .i64 0) rfl
  have t1 := cell_obj (i := 1) (hL20.obj HT19.out) (v := .slice none 0 0) rfl
  have t2 := cell_obj (i := 2) (hL20.obj HT19.out) (v := .slice none 0 0) rfl
  clear hL20
  go_wp2_with fail
  go_ret
  exact ⟨rfl, HL20.out⟩
end Go.Proofs.YthfgjmdmcoogpaaDoor
