/-
  PROVED HERE: streamwrightlaw15.SessionRows walked: it returns true.
-/
import Derived.Test.YtbabfibmopfghaaGreatDoorRowRef
import Derived.Test.YtbabfibmopfghaaGreatDoorSame
import Derived.Test.YtbabfibmopfghaaGreatDoorTold
import Derived.Shelf.Vars
namespace Go.Proofs.YtbabfibmopfghaaGreatDoor
set_option linter.unusedSimpArgs false
set_option linter.unusedVariables false
open Go.RowKit

theorem MaxLenAt.later {w w' : World} (h : MaxLenAt w) (hL : Later w w') : MaxLenAt w' := by
  obtain ⟨m, hm⟩ := h
  exact ⟨m, hL.cell hm⟩
theorem showRow_len (t : Int) (l : List Val) (ht : (Lit.int .i64 t).wf = true) (hg : ∀ x ∈ l, IntOk x) : (showRow t l).length ≤ 22 + 202 * l.length := by
  have h0 := itoa_len20 ht
  have hj : ∀ l : List Val, (∀ x ∈ l, IntOk x) → (joinT l).length ≤ 202 * l.length := by
    intro l
    induction l with
    | nil => intro _; simp [joinT]
    | cons x r ih =>
      intro hg
      have hx := showV_len x (hg x (by simp))
      have hr := ih fun y hy => hg y (by simp [hy])
      cases r with
      | nil => simp [joinT]; omega
      | cons y r =>
        rw [joinT_cons (r := y :: r) (by simp)]
        simp only [List.length_cons, List.length_append] at hr ⊢
        omega
  have h1 := hj l hg
  unfold showRow
  simp only [List.length_append, List.length_cons]
  omega
set_option maxRecDepth 100000 in
set_option maxHeartbeats 4000000 in
theorem rows_walk (l : List UInt8) (t : Int) (xs : List Val) (v : Value) (w : World) (hs : l.length ≤ 1048576) (hv : IsVals w v xs) (hxl : xs.length ≤ 1048576) (htw : (Lit.int .i64 t).wf = true) (hg : ∀ x ∈ xs, IntOk x) (hE : ErrVars w) (ht : PowTab w) (hm : MaxLenAt w) (hG : Laid w) : Calls Tryz.prog 3 #[.string (strB l), .agg #[.int .i64 t, v]] w fun e w' => e = .returned (.bool true) ∧ Later w w' := by
  have HS := hid hs; have HV := hid hv; have HXL := hid hxl; have HTW := hid htw; have HOK := hid hg; have HE := hid hE; have HT := hid ht; have HM := hid hm; have HG := hid hG
  clear hs hxl htw hg hE ht hm hG
  obtain ⟨p, c, rfl, hac, hcm, -, hea⟩ := hv
  clear hac hcm hea
  have HRP := hid (row_same l)
  go_enter Tryz.func3, Tryz.ntmps3
  go_wp2_with fail
  refine (row_read l _ (by have := HS.out; omega) (HE.out.later (Later.alloc w _)) (HT.out.later (Later.alloc w _)) (HM.out.later (Later.alloc w _))).mono ?_
  rintro e w1 ⟨hL1, hr1⟩
  have HA1 := hid (hL1.obj (obj_new w _))
  have HL1 := hid (Later.of_alloc hL1)
  clear hL1
  have hx : ∃ (n : Int) (u : Value) (ys : List Val) (k : Int), e = .returned (.tuple #[.agg #[.int .i64 n, u], errVal k]) ∧ IsVals w1 u ys ∧ ((k = 1 ∧ n = 0 ∧ ys = [] ∧ rowD l = none) ∨ (k = 0 ∧ rowD l = some (n, ys))) := by
    have hd := HRP.out
    cases hrp : rowP l with
    | none =>
      rw [hrp] at hr1 hd
      exact ⟨0, .slice none 0 0, [], 1, hr1, isVals_nil _, .inl ⟨rfl, rfl, rfl, hd.symm⟩⟩
    | some r =>
      obtain ⟨n, ys⟩ := r
      rw [hrp] at hr1 hd
      obtain ⟨u, he, hu, -⟩ := hr1
      exact ⟨n, u, ys, 0, he, hu, .inr ⟨rfl, hd.symm⟩⟩
  clear hr1
  obtain ⟨n, u, ys, k, rfl, hu, hk⟩ := hx
  have HU := hid hu
  obtain ⟨pu, cu, rfl, -⟩ := id hu
  have HK := hid hk
  clear hu hk
  go_wp2_with fail
  refine (rrow_read l _ HS.out).mono ?_
  rintro e w2 ⟨hL2, n2, u2, l2, rfl, hu2, hrd⟩
  obtain ⟨pv, cv, rfl, -⟩ := id hu2
  have HL2 := hid (Later.trans _ _ _ (HL1.out.alloc' _) hL2)
  have HA2 := hid (hL2.obj ((Later.alloc w1 _).obj HA1.out))
  have HX2 := hid (hL2.obj (obj_new w1 _))
  have HU2 := hid ((HU.out.later (Later.alloc w1 _)).later hL2)
  have HV2 := hid hu2
  have HRD := hid hrd
  clear hL2 hu2 hrd
  go_wp2_with fail
  refine (told_any k _ (HG.out.later (HL2.out.alloc' _))).mono ?_
  rintro e w3 ⟨rfl, hL3⟩
  have HL3 := hid (Later.trans _ _ _ (HL2.out.alloc' _) hL3)
  have hz3 := hL3
  have HA3 := hid (hL3.obj ((Later.alloc w2 _).obj HA2.out))
  have HX3 := hid (hL3.obj ((Later.alloc w2 _).obj HX2.out))
  have HY3 := hid (hL3.obj (obj_new w2 _))
  have HU3 := hid ((HU2.out.later (Later.alloc w2 _)).later hL3)
  have HV3 := hid ((HV2.out.later (Later.alloc w2 _)).later hL3)
  clear hL3 hz3
  have x0 := cell_obj (i := 0) HX3.out rfl
  have x1 := cell_obj (i := 1) HX3.out rfl
  have y0 := cell_obj (i := 0) HY3.out rfl
  have y1 := cell_obj (i := 1) HY3.out rfl
  go_wp2_with fail
  refine (same_vals ys l2 _ _ _ HU3.out HV3.out).mono ?_
  rintro e w4 ⟨rfl, hL4⟩
  have HL4 := hid (Later.trans _ _ _ HL3.out hL4)
  have HA4 := hid (hL4.obj HA3.out)
  have HX4 := hid (hL4.obj HX3.out)
  have HY4 := hid (hL4.obj HY3.out)
  clear hL4 x0 x1 y0 y1
  have x0 := cell_obj (i := 0) HX4.out rfl
  have x1 := cell_obj (i := 1) HX4.out rfl
  have y0 := cell_obj (i := 0) HY4.out rfl
  have y1 := cell_obj (i := 1) HY4.out rfl
  go_upto_region 5 with (fail)
  obtain ⟨R1, hR1⟩ : ∃ RR_ : (Nat → Value) → World → Prop, RR_ = (fun us wy => us 68 = .bool false ∧ wy = w4) := ⟨_, rfl⟩
  have HR1 := hid hR1; clear hR1
  refine wp_cut_frame' [false, false, false, false, false, false, false, false, false, false, false, false, false, false, false, false, false, false, false, false, false, false, false, false, false, false, false, false, false, false, false, false, false, false, true, true, true, true, true, true, true, true, true, true, true, true, true, true, true, true, true, true, true, true, true, true, true, true, true, true, true, true, true, true, true, true, true, true, true] R1 _ HR1.out ?_ ?_
  · rcases HK.out with ⟨hk, hn, hy, hd⟩ | ⟨hk, hd⟩
    · subst hk hn hy
      have hs : (rowD l).isSome = false := by rw [hd]; rfl
      clear hd
      go_wp2_with fail
      refine Meet.mk' HR1.out rfl ?_
      exact ⟨by simp [slots], rfl⟩
    · have hs : (rowD l).isSome = true := by rw [hd]; rfl
      have he := HRD.out _ hd
      obtain ⟨rfl, rfl⟩ := Prod.mk.inj he
      have hsm : sameV ys ys = true := sameV_refl ys
      subst hk
      clear hd he
      go_wp2_with fail
      refine Meet.mk' HR1.out rfl ?_
      exact ⟨by simp [slots, hsm], rfl⟩
  intro us1 wy hrel
  obtain ⟨h68, rfl⟩ := hrel
  simp only [frameOf, Nat.reduceAdd, h68]
  have Hh68 := hid h68; clear h68
  have a0 := cell_obj (i := 0) HA4.out rfl
  have a1 := cell_obj (i := 1) HA4.out rfl
  clear x0 x1 y0 y1
  have HW4 := hid (HV.out.later HL4.out)
  go_wp2_with fail
  refine (rvalid_row t xs _ _ HW4.out).mono ?_
  rintro e w5 ⟨rfl, hL5⟩
  have HL5 := hid (Later.trans _ _ _ HL4.out hL5)
  have HA5 := hid (hL5.obj HA4.out)
  have HW5 := hid (HW4.out.later hL5)
  clear hL5 a0 a1
  have a0 := cell_obj (i := 0) HA5.out rfl
  have a1 := cell_obj (i := 1) HA5.out rfl
  go_wp2_with fail
  refine (show_row t xs _ _ HW5.out (by have := HXL.out; omega) HTW.out (fun x hx => lit_ok (HOK.out x hx)) (HT.out.later HL5.out)).mono ?_
  rintro e w6 ⟨rfl, hL6⟩
  have HL6 := hid (Later.trans _ _ _ HL5.out hL6)
  have HA6 := hid (hL6.obj HA5.out)
  have HW6 := hid (HW5.out.later hL6)
  clear hL6 a0 a1
  have a0 := cell_obj (i := 0) HA6.out rfl
  have a1 := cell_obj (i := 1) HA6.out rfl
  go_wp2_with fail
  refine (rshow_row t xs _ _ HW6.out (by have := HXL.out; omega) HTW.out (fun x hx => lit_ok (HOK.out x hx))).mono ?_
  rintro e w7 ⟨rfl, hL7⟩
  have HL7 := hid (Later.trans _ _ _ HL6.out hL7)
  have HA7 := hid (hL7.obj HA6.out)
  have HW7 := hid (HW6.out.later hL7)
  clear hL7 a0 a1
  have HLEN := hid (showRow_len t xs HTW.out HOK.out)
  have HBACK : Hid (validR ⟨t, xs⟩ = true → rowP (showRow t xs) = some (t, xs)) := hid fun hv => by
    have hb : -9223372036854775808 ≤ t ∧ t ≤ 9223372036854775807 := by have h := HTW.out; simpa [Lit.wf, IntKind.min, IntKind.max, IntKind.bits, IntKind.signed] using h
    exact rowP_show hb.1 hb.2 hv HOK.out
  generalize showRow t xs = S at *
  go_wp2_with fail
  refine (row_read S _ (by have := HLEN.out; have := HXL.out; omega) (HE.out.later HL7.out) (HT.out.later HL7.out) (HM.out.later HL7.out)).mono ?_
  rintro e w8 ⟨hL8, hr8⟩
  have hz : ∃ (n3 : Int) (u3 : Value) (zs : List Val) (k3 : Int), e = .returned (.tuple #[.agg #[.int .i64 n3, u3], errVal k3]) ∧ IsVals w8 u3 zs ∧ (validR ⟨t, xs⟩ = true → k3 = 0 ∧ n3 = t ∧ zs = xs) := by
    cases hrp : rowP S with
    | none =>
      rw [hrp] at hr8
      exact ⟨0, .slice none 0 0, [], 1, hr8, isVals_nil _, fun hv => by have := HBACK.out hv; rw [hrp] at this; cases this⟩
    | some r =>
      obtain ⟨n, ys⟩ := r
      rw [hrp] at hr8
      obtain ⟨u, he, hu, -⟩ := hr8
      refine ⟨n, u, ys, 0, he, hu, fun hv => ?_⟩
      have h := HBACK.out hv
      rw [hrp] at h
      obtain ⟨rfl, rfl⟩ := Prod.mk.inj (Option.some.inj h)
      exact ⟨rfl, rfl, rfl⟩
  clear hr8
  obtain ⟨n3, u3, zs, k3, rfl, hu3, hk3⟩ := hz
  have HU3b := hid hu3
  have HK3 := hid hk3
  obtain ⟨pz, cz, rfl, -⟩ := id hu3
  have HL8 := hid (Later.trans _ _ _ HL7.out hL8)
  have HA8 := hid (hL8.obj HA7.out)
  have HW8 := hid (HW7.out.later hL8)
  clear hL8 hu3 hk3
  have HA9 := hid ((Later.alloc w8 (.cells #[.int .i64 n3, .slice pz zs.length cz] 24)).obj HA8.out)
  have a0 := cell_obj (i := 0) HA9.out rfl
  have a1 := cell_obj (i := 1) HA9.out rfl
  go_wp2_with fail
  refine (same_vals zs xs _ _ _ (HU3b.out.later (Later.alloc _ _)) (HW8.out.later (Later.alloc _ _))).mono ?_
  rintro e w9 ⟨rfl, hL9⟩
  have HL9 := hid (Later.trans _ _ _ (HL8.out.alloc' _) hL9)
  have HA10 := hid (hL9.obj HA9.out)
  have HZ10 := hid (hL9.obj (obj_new w8 _))
  clear hL9 a0 a1
  have a0 := cell_obj (i := 0) HA10.out rfl
  have a1 := cell_obj (i := 1) HA10.out rfl
  have z0 := cell_obj (i := 0) HZ10.out rfl
  have z1 := cell_obj (i := 1) HZ10.out rfl
  cases hvr : validR ⟨t, xs⟩ with
  | true =>
    obtain ⟨h1, h2, h3⟩ := HK3.out hvr
    subst h1 h2 h3
    have hsm : sameV zs zs = true := sameV_refl zs
    rw [show errVal 0 = .nilIface from rfl]
    clear hvr
    go_wp2_with fail
    go_ret
    exact ⟨ret_bool (by simp [hsm]), HL9.out⟩
  | false =>
    go_wp2_with fail
    go_ret
    exact ⟨ret_bool (by simp), HL9.out⟩
theorem rows_str (s : ByteArray) (t : Int) (xs : List Val) (v : Value) (w : World) (hs : s.data.toList.length ≤ 1048576) (hv : IsVals w v xs) (hxl : xs.length ≤ 1048576) (htw : (Lit.int .i64 t).wf = true) (hg : ∀ x ∈ xs, ValOk x) (hE : ErrVars w) (ht : PowTab w) (hm : MaxLenAt w) (hG : Laid w) : Calls Tryz.prog 3 #[.string s, .agg #[.int .i64 t, v]] w fun e w' => e = .returned (.bool true) ∧ Later w w' := by
  have h := rows_walk s.data.toList t xs v w hs hv hxl htw (fun x hx => by
    have h := (hg x hx).2.1
    simpa [IntOk, Lit.wf, IntKind.min, IntKind.max, IntKind.bits, IntKind.signed] using h) hE ht hm hG
  rwa [strB_data] at h
theorem maxlen_of {w : World} (h : w.ShapedOpen Tryz.prog) : MaxLenAt w :=
  cell_of_shapedOpen_int (g := 1) (zero := #[.int .i64 0]) (t := 3) h (of_decide_eq_true (by kernel_rfl)) (by kernel_rfl) rfl (by kernel_rfl) (by kernel_rfl) Tryz.underlying3
end Go.Proofs.YtbabfibmopfghaaGreatDoor
