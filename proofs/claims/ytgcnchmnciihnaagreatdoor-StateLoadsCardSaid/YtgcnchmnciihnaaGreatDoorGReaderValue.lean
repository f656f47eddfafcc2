/-
  PROVED HERE: the contract of wire.Reader.Value.
  PROVED HERE: the contracts of wire.PutInt, putText, PutValue, PutRows.
-/
import Derived.Test.YtgcnchmnciihnaaGreatDoorGReaderInt
import Derived.Test.YtgcnchmnciihnaaGreatDoorGPutLaws
import Derived.Test.YtgcnchmnciihnaaGreatDoorGU8
import Derived.OwnWalk
namespace Go.Proofs.YtgcnchmnciihnaaGreatDoor
set_option linter.unusedSimpArgs false
set_option linter.unusedVariables false
open Go.RowKit

theorem keeps_other {p : Addr} (w : World) (v : Value) : Keeps (fun b => b ≠ p.block) w (w.setCell p v) := (Keeps.refl _ _).setCell (.inl (by simp)) _
theorem results_cell2 {fn : Func} {t : Tmp} {ty : TypeId} (h : fn.results = #[.cell t ty]) (tmps : Array Value) (P : Program) (w : World) :
    (results fn tmps).run P w = (do loadVar ty (← asAddr (tmps.getD t undef)) : Sem Value).run P w := by
  simp [results, h]
attribute [local go_sem] run_eql_nil8
set_option maxHeartbeats 2000000 in
theorem read_value (R : Nat) (l : List UInt8) (w : World) (h : RdB w R false l) : Calls Tryz.prog 54 #[.pointer (some ⟨R, 0, none⟩)] w (ValueTo w R l) := by
  have hlt := h.lt
  have HR := hid h
  have HT := hid hlt
  clear h
  go_enter Tryz.func54, Tryz.ntmps54
  go_wp2_with fail
  have HR0 := hid (HR.out.later (Later.alloc _ _ : Later w (w.alloc (.cells #[.int .i64 0, .int .i64 0, .string ⟨#[]⟩] 52 (0, 0)))))
  cases l with
  | nil =>
    refine (take_no R false 1 _ _ HR0.out (.inr (.inr (by simp)))).mono ?_
    rintro e w1 ⟨rfl, hr1, hk1⟩
    have HO := hid (hk1.obj (Nat.ne_of_gt hlt) (obj_new w _))
    have HR1 := hid hr1
    have HK1 := hid (((Later.alloc w (.cells #[.int .i64 0, .int .i64 0, .string ⟨#[]⟩] 52 (0, 0))).keeps (fun b => b ≠ R)).trans hk1)
    clear hr1 hk1 hlt
    have r0 := cell_obj (i := 0) HO.out rfl
    have r1 := cell_obj (i := 1) HO.out rfl
    have r2 := cell_obj (i := 2) HO.out rfl
    have z0 := free_obj (i := 0) HO.out
    have z1 := free_obj (i := 1) HO.out
    have z2 := free_obj (i := 2) HO.out
    go_wp2_with fail
    refine bodyPost_ret (v := zeroV.v) ?_ rfl (valueTo_no rfl rfl (HR1.out.others HT.out _ _ _) (keeps_others HK1.out (Nat.le_refl _) _ _ _))
    rw [results_cell2 (t := 2) (ty := 52) rfl]
    go_simp
    exact ⟨rfl, rfl, rfl⟩
  | cons ch r =>
    refine (take_yes R 1 _ _ HR0.out (by simp only [List.length_cons]; omega)).mono ?_
    intro e w1 hT
    obtain ⟨b, o, c, rfl, q0, hr1, hk1⟩ := took_one hT
    obtain ⟨m, hm⟩ : ∃ m, m = ch.toNat := ⟨_, rfl⟩
    have HM := hid hm
    have hm8 : m < 256 := by rw [hm]; exact ch.toNat_lt
    rw [← hm] at q0
    have ho1 := hk1.obj (Nat.ne_of_gt hlt) (obj_new w _)
    have hK1 := ((Later.alloc w (.cells #[.int .i64 0, .int .i64 0, .string ⟨#[]⟩] 52 (0, 0))).keeps (fun b => b ≠ R)).trans hk1
    have hRX := hr1.lt
    have hTX := (Array.getElem?_eq_some_iff.1 ho1).1
    clear hm hT HR0 HR
    go_upto_region 5 with (fail)
    have HX := hid (obj_new w1 (.cells #[.int .i64 m, .int .i64 0, .string ⟨#[]⟩] 52 (0, 0)))
    have hL2 := Later.alloc w1 (.cells #[.int .i64 m, .int .i64 0, .string ⟨#[]⟩] 52 (0, 0))
    have HO := hid (hL2.obj ho1)
    have HR1 := hid (hr1.later hL2)
    have HK1 := hid (hK1.more hL2)
    have HXO : Hid (w.heap.size ≠ w1.heap.size) := hid (by omega)
    have HXR : Hid (R < w1.heap.size) := hid hRX
    have HXW : Hid (w.heap.size ≤ w1.heap.size) := hid (by omega)
    generalize w1.alloc (.cells #[.int .i64 m, .int .i64 0, .string ⟨#[]⟩] 52 (0, 0)) = w2 at *
    generalize w1.heap.size = X at *
    clear hL2 ho1 hK1 hRX hTX hr1 hk1 q0 hlt
    have n1 : X ≠ R := Nat.ne_of_gt HXR.out
    have n2 : R ≠ X := Nat.ne_of_lt HXR.out
    have n3 : w.heap.size ≠ X := HXO.out
    have n4 : X ≠ w.heap.size := HXO.out.symm
    have n5 : w.heap.size ≠ R := Nat.ne_of_gt HT.out
    have n6 : R ≠ w.heap.size := Nat.ne_of_lt HT.out
    by_cases hm1 : m = 1
    · subst hm1
      have q0 := cell_obj (i := 0) HX.out rfl
      go_wp2_with fail
      clear q0
      refine (read_int R r _ HR1.out).mono ?_
      rintro e w3 ⟨hk3, hT3⟩
      have HO3 := hid (hk3.obj (Nat.ne_of_gt HT.out) HO.out)
      have HX3 := hid (hk3.obj (Nat.ne_of_gt HXR.out) HX.out)
      have HK3 := hid (HK1.out.trans hk3)
      clear hk3
      cases hd : dInt r with
      | none =>
        rw [hd] at hT3
        obtain ⟨rfl, r3, hr3⟩ := hT3
        have HR3 := hid hr3
        have HD : Hid (dVal (ch :: r) = none) := hid (by simp only [dVal]; rw [← HM.out]; simp [dFill, hd])
        clear hr3 hd
        have r0 := cell_obj (i := 0) HO3.out rfl
        have r1 := cell_obj (i := 1) HO3.out rfl
        have r2 := cell_obj (i := 2) HO3.out rfl
        have z0 := free_obj (i := 0) HO3.out
        have z1 := free_obj (i := 1) HO3.out
        have z2 := free_obj (i := 2) HO3.out
        have q0 := cell_obj (i := 0) HX3.out rfl
        have q1 := cell_obj (i := 1) HX3.out rfl
        have q2 := cell_obj (i := 2) HX3.out rfl
        have p0 := free_obj (i := 0) HX3.out
        have p1 := free_obj (i := 1) HX3.out
        have p2 := free_obj (i := 2) HX3.out
        obtain ⟨vb, hob, -⟩ := HR3.out
        have x1 := cell_obj (i := 1) hob (v := .bool true) rfl
        have y1 := free_obj (i := 1) hob
        clear hob
        go_wp2_with fail
        refine bodyPost_ret (v := zeroV.v) ?_ rfl (valueTo_no HD.out rfl (((HR3.out.other HXR.out _).put true).1.others HT.out _ _ _) (keeps_others ((HK3.out.setCell (p := ⟨X, _, none⟩) (.inr HXW.out) _).trans ((HR3.out.other HXR.out _).put true).2) (Nat.le_refl _) _ _ _))
        rw [results_cell2 (t := 2) (ty := 52) rfl]
        go_simp
        try exact ⟨rfl, rfl, rfl⟩
      | some pr =>
        obtain ⟨n, r3⟩ := pr
        rw [hd] at hT3
        obtain ⟨rfl, hr3⟩ := hT3
        have HR3 := hid hr3
        have HF : Hid (dFill ((1 : Nat) : Int) r = some (⟨1, n, ⟨#[]⟩⟩, r3)) := hid (by simp [dFill, hd])
        clear hr3 hd
        have q1 := cell_obj (i := 1) HX3.out rfl
        have p1 := free_obj (i := 1) HX3.out
        go_upto_region 11 with (fail)
        clear q1 p1
        have HR5 := hid (HR3.out.other (p := ⟨X, 1, none⟩) HXR.out (.int .i64 n))
        have HO5 := hid ((keeps_other (p := ⟨X, 1, none⟩) w3 (.int .i64 n)).obj HXO.out HO3.out)
        have HX5 := hid (obj_setCell (i := 1) HX3.out (.int .i64 n))
        have HK5 := hid (HK3.out.setCell (p := ⟨X, 1, none⟩) (.inr HXW.out) (.int .i64 n))
        simp only [List.setIfInBounds_toArray, List.set] at HX5
        generalize w3.setCell ⟨X, 1, none⟩ (.int .i64 n) = w5 at *
        have r0 := cell_obj (i := 0) HO5.out rfl
        have r1 := cell_obj (i := 1) HO5.out rfl
        have r2 := cell_obj (i := 2) HO5.out rfl
        have z0 := free_obj (i := 0) HO5.out
        have z1 := free_obj (i := 1) HO5.out
        have z2 := free_obj (i := 2) HO5.out
        have q0 := cell_obj (i := 0) HX5.out rfl
        have q1 := cell_obj (i := 1) HX5.out rfl
        have q2 := cell_obj (i := 2) HX5.out rfl
        have p0 := free_obj (i := 0) HX5.out
        have p1 := free_obj (i := 1) HX5.out
        have p2 := free_obj (i := 2) HX5.out
        obtain ⟨vb, hob, -⟩ := HR5.out
        have x1 := cell_obj (i := 1) hob (v := .bool false) rfl
        have y1 := free_obj (i := 1) hob
        clear hob
        go_wp2_with fail
        refine (valid_any ⟨1, n, ⟨#[]⟩⟩ _).mono ?_
        rintro e w4 ⟨rfl, hL4⟩
        clear r0 r1 r2 z0 z1 z2 q0 q1 q2 p0 p1 p2 x1 y1
        have HR4 := hid (HR5.out.later hL4)
        have HO4 := hid (hL4.obj HO5.out)
        have HX4 := hid (hL4.obj HX5.out)
        have HK4 := hid (HK5.out.more hL4)
        clear hL4
        have r0 := cell_obj (i := 0) HO4.out rfl
        have r1 := cell_obj (i := 1) HO4.out rfl
        have r2 := cell_obj (i := 2) HO4.out rfl
        have z0 := free_obj (i := 0) HO4.out
        have z1 := free_obj (i := 1) HO4.out
        have z2 := free_obj (i := 2) HO4.out
        have q0 := cell_obj (i := 0) HX4.out rfl
        have q1 := cell_obj (i := 1) HX4.out rfl
        have q2 := cell_obj (i := 2) HX4.out rfl
        have p0 := free_obj (i := 0) HX4.out
        have p1 := free_obj (i := 1) HX4.out
        have p2 := free_obj (i := 2) HX4.out
        obtain ⟨vb, hob, -⟩ := HR4.out
        have x1 := cell_obj (i := 1) hob (v := .bool false) rfl
        have y1 := free_obj (i := 1) hob
        clear hob
        cases hv : validV ⟨1, n, ⟨#[]⟩⟩ with
        | false =>
          have HD : Hid (dVal (ch :: r) = none) := hid (by simp only [dVal]; rw [← HM.out, HF.out]; simp [hv])
          clear hv
          go_wp2_with fail
          refine bodyPost_ret (v := zeroV.v) ?_ rfl (valueTo_no HD.out rfl ((HR4.out.put true).1.others HT.out _ _ _) (keeps_others (HK4.out.trans (HR4.out.put true).2) (Nat.le_refl _) _ _ _))
          rw [results_cell2 (t := 2) (ty := 52) rfl]
          go_simp
          try exact ⟨rfl, rfl, rfl⟩
        | true =>
          have HD : Hid (dVal (ch :: r) = some (⟨1, n, ⟨#[]⟩⟩, _)) := hid (by simp only [dVal]; rw [← HM.out, HF.out]; simp only [hv, if_true]; rfl)
          clear hv
          go_wp2_with fail
          refine bodyPost_ret (v := (⟨1, n, ⟨#[]⟩⟩ : Val).v) ?_ rfl (valueTo_yes HD.out rfl ((HR4.out.put false).1.others HT.out _ _ _) (keeps_others (HK4.out.trans (HR4.out.put false).2) (Nat.le_refl _) _ _ _))
          rw [results_cell2 (t := 2) (ty := 52) rfl]
          go_simp
          try exact ⟨rfl, rfl, rfl⟩
    by_cases hm2 : m = 2
    · subst hm2
      have q0 := cell_obj (i := 0) HX.out rfl
      go_wp2_with fail
      clear q0
      refine (read_int R r _ HR1.out).mono ?_
      rintro e w3 ⟨hk3, hT3⟩
      have HO3 := hid (hk3.obj (Nat.ne_of_gt HT.out) HO.out)
      have HX3 := hid (hk3.obj (Nat.ne_of_gt HXR.out) HX.out)
      have HK3 := hid (HK1.out.trans hk3)
      clear hk3
      cases hd : dInt r with
      | none =>
        rw [hd] at hT3
        obtain ⟨rfl, r3, hr3⟩ := hT3
        have HR3 := hid hr3
        have HD : Hid (dVal (ch :: r) = none) := hid (by simp only [dVal]; rw [← HM.out]; simp [dFill, hd])
        clear hr3 hd
        have r0 := cell_obj (i := 0) HO3.out rfl
        have r1 := cell_obj (i := 1) HO3.out rfl
        have r2 := cell_obj (i := 2) HO3.out rfl
        have z0 := free_obj (i := 0) HO3.out
        have z1 := free_obj (i := 1) HO3.out
        have z2 := free_obj (i := 2) HO3.out
        have q0 := cell_obj (i := 0) HX3.out rfl
        have q1 := cell_obj (i := 1) HX3.out rfl
        have q2 := cell_obj (i := 2) HX3.out rfl
        have p0 := free_obj (i := 0) HX3.out
        have p1 := free_obj (i := 1) HX3.out
        have p2 := free_obj (i := 2) HX3.out
        obtain ⟨vb, hob, -⟩ := HR3.out
        have x1 := cell_obj (i := 1) hob (v := .bool true) rfl
        have y1 := free_obj (i := 1) hob
        clear hob
        go_wp2_with fail
        refine bodyPost_ret (v := zeroV.v) ?_ rfl (valueTo_no HD.out rfl (((HR3.out.other HXR.out _).put true).1.others HT.out _ _ _) (keeps_others ((HK3.out.setCell (p := ⟨X, _, none⟩) (.inr HXW.out) _).trans ((HR3.out.other HXR.out _).put true).2) (Nat.le_refl _) _ _ _))
        rw [results_cell2 (t := 2) (ty := 52) rfl]
        go_simp
        try exact ⟨rfl, rfl, rfl⟩
      | some pr =>
        obtain ⟨n, r3⟩ := pr
        rw [hd] at hT3
        obtain ⟨rfl, hr3⟩ := hT3
        have HR3 := hid hr3
        have HF : Hid (dFill ((2 : Nat) : Int) r = some (⟨2, n, ⟨#[]⟩⟩, r3)) := hid (by simp [dFill, hd])
        clear hr3 hd
        have q1 := cell_obj (i := 1) HX3.out rfl
        have p1 := free_obj (i := 1) HX3.out
        go_upto_region 11 with (fail)
        clear q1 p1
        have HR5 := hid (HR3.out.other (p := ⟨X, 1, none⟩) HXR.out (.int .i64 n))
        have HO5 := hid ((keeps_other (p := ⟨X, 1, none⟩) w3 (.int .i64 n)).obj HXO.out HO3.out)
        have HX5 := hid (obj_setCell (i := 1) HX3.out (.int .i64 n))
        have HK5 := hid (HK3.out.setCell (p := ⟨X, 1, none⟩) (.inr HXW.out) (.int .i64 n))
        simp only [List.setIfInBounds_toArray, List.set] at HX5
        generalize w3.setCell ⟨X, 1, none⟩ (.int .i64 n) = w5 at *
        have r0 := cell_obj (i := 0) HO5.out rfl
        have r1 := cell_obj (i := 1) HO5.out rfl
        have r2 := cell_obj (i := 2) HO5.out rfl
        have z0 := free_obj (i := 0) HO5.out
        have z1 := free_obj (i := 1) HO5.out
        have z2 := free_obj (i := 2) HO5.out
        have q0 := cell_obj (i := 0) HX5.out rfl
        have q1 := cell_obj (i := 1) HX5.out rfl
        have q2 := cell_obj (i := 2) HX5.out rfl
        have p0 := free_obj (i := 0) HX5.out
        have p1 := free_obj (i := 1) HX5.out
        have p2 := free_obj (i := 2) HX5.out
        obtain ⟨vb, hob, -⟩ := HR5.out
        have x1 := cell_obj (i := 1) hob (v := .bool false) rfl
        have y1 := free_obj (i := 1) hob
        clear hob
        go_wp2_with fail
        refine (valid_any ⟨2, n, ⟨#[]⟩⟩ _).mono ?_
        rintro e w4 ⟨rfl, hL4⟩
        clear r0 r1 r2 z0 z1 z2 q0 q1 q2 p0 p1 p2 x1 y1
        have HR4 := hid (HR5.out.later hL4)
        have HO4 := hid (hL4.obj HO5.out)
        have HX4 := hid (hL4.obj HX5.out)
        have HK4 := hid (HK5.out.more hL4)
        clear hL4
        have r0 := cell_obj (i := 0) HO4.out rfl
        have r1 := cell_obj (i := 1) HO4.out rfl
        have r2 := cell_obj (i := 2) HO4.out rfl
        have z0 := free_obj (i := 0) HO4.out
        have z1 := free_obj (i := 1) HO4.out
        have z2 := free_obj (i := 2) HO4.out
        have q0 := cell_obj (i := 0) HX4.out rfl
        have q1 := cell_obj (i := 1) HX4.out rfl
        have q2 := cell_obj (i := 2) HX4.out rfl
        have p0 := free_obj (i := 0) HX4.out
        have p1 := free_obj (i := 1) HX4.out
        have p2 := free_obj (i := 2) HX4.out
        obtain ⟨vb, hob, -⟩ := HR4.out
        have x1 := cell_obj (i := 1) hob (v := .bool false) rfl
        have y1 := free_obj (i := 1) hob
        clear hob
        cases hv : validV ⟨2, n, ⟨#[]⟩⟩ with
        | false =>
          have HD : Hid (dVal (ch :: r) = none) := hid (by simp only [dVal]; rw [← HM.out, HF.out]; simp [hv])
          clear hv
          go_wp2_with fail
          refine bodyPost_ret (v := zeroV.v) ?_ rfl (valueTo_no HD.out rfl ((HR4.out.put true).1.others HT.out _ _ _) (keeps_others (HK4.out.trans (HR4.out.put true).2) (Nat.le_refl _) _ _ _))
          rw [results_cell2 (t := 2) (ty := 52) rfl]
          go_simp
          try exact ⟨rfl, rfl, rfl⟩
        | true =>
          have HD : Hid (dVal (ch :: r) = some (⟨2, n, ⟨#[]⟩⟩, _)) := hid (by simp only [dVal]; rw [← HM.out, HF.out]; simp only [hv, if_true]; rfl)
          clear hv
          go_wp2_with fail
          refine bodyPost_ret (v := (⟨2, n, ⟨#[]⟩⟩ : Val).v) ?_ rfl (valueTo_yes HD.out rfl ((HR4.out.put false).1.others HT.out _ _ _) (keeps_others (HK4.out.trans (HR4.out.put false).2) (Nat.le_refl _) _ _ _))
          rw [results_cell2 (t := 2) (ty := 52) rfl]
          go_simp
          try exact ⟨rfl, rfl, rfl⟩
    by_cases hm3 : m = 3
    · subst hm3
      have q0 := cell_obj (i := 0) HX.out rfl
      go_wp2_with fail
      clear q0
      refine (read_text R r _ HR1.out).mono ?_
      rintro e w3 ⟨hk3, hT3⟩
      have HO3 := hid (hk3.obj (Nat.ne_of_gt HT.out) HO.out)
      have HX3 := hid (hk3.obj (Nat.ne_of_gt HXR.out) HX.out)
      have HK3 := hid (HK1.out.trans hk3)
      clear hk3
      cases hd : dText r with
      | none =>
        rw [hd] at hT3
        obtain ⟨rfl, r3, hr3⟩ := hT3
        have HR3 := hid hr3
        have HD : Hid (dVal (ch :: r) = none) := hid (by simp only [dVal]; rw [← HM.out]; simp [dFill, hd])
        clear hr3 hd
        have r0 := cell_obj (i := 0) HO3.out rfl
        have r1 := cell_obj (i := 1) HO3.out rfl
        have r2 := cell_obj (i := 2) HO3.out rfl
        have z0 := free_obj (i := 0) HO3.out
        have z1 := free_obj (i := 1) HO3.out
        have z2 := free_obj (i := 2) HO3.out
        have q0 := cell_obj (i := 0) HX3.out rfl
        have q1 := cell_obj (i := 1) HX3.out rfl
        have q2 := cell_obj (i := 2) HX3.out rfl
        have p0 := free_obj (i := 0) HX3.out
        have p1 := free_obj (i := 1) HX3.out
        have p2 := free_obj (i := 2) HX3.out
        obtain ⟨vb, hob, -⟩ := HR3.out
        have x1 := cell_obj (i := 1) hob (v := .bool true) rfl
        have y1 := free_obj (i := 1) hob
        clear hob
        go_wp2_with fail
        refine bodyPost_ret (v := zeroV.v) ?_ rfl (valueTo_no HD.out rfl (((HR3.out.other HXR.out _).put true).1.others HT.out _ _ _) (keeps_others ((HK3.out.setCell (p := ⟨X, _, none⟩) (.inr HXW.out) _).trans ((HR3.out.other HXR.out _).put true).2) (Nat.le_refl _) _ _ _))
        rw [results_cell2 (t := 2) (ty := 52) rfl]
        go_simp
        try exact ⟨rfl, rfl, rfl⟩
      | some pr =>
        obtain ⟨n, r3⟩ := pr
        rw [hd] at hT3
        obtain ⟨rfl, hr3⟩ := hT3
        have HR3 := hid hr3
        have HF : Hid (dFill ((3 : Nat) : Int) r = some (⟨3, 0, n⟩, r3)) := hid (by simp [dFill, hd])
        clear hr3 hd
        have q2 := cell_obj (i := 2) HX3.out rfl
        have p2 := free_obj (i := 2) HX3.out
        go_upto_region 11 with (fail)
        clear q2 p2
        have HR5 := hid (HR3.out.other (p := ⟨X, 2, none⟩) HXR.out (.string n))
        have HO5 := hid ((keeps_other (p := ⟨X, 2, none⟩) w3 (.string n)).obj HXO.out HO3.out)
        have HX5 := hid (obj_setCell (i := 2) HX3.out (.string n))
        have HK5 := hid (HK3.out.setCell (p := ⟨X, 2, none⟩) (.inr HXW.out) (.string n))
        simp only [List.setIfInBounds_toArray, List.set] at HX5
        generalize w3.setCell ⟨X, 2, none⟩ (.string n) = w5 at *
        have r0 := cell_obj (i := 0) HO5.out rfl
        have r1 := cell_obj (i := 1) HO5.out rfl
        have r2 := cell_obj (i := 2) HO5.out rfl
        have z0 := free_obj (i := 0) HO5.out
        have z1 := free_obj (i := 1) HO5.out
        have z2 := free_obj (i := 2) HO5.out
        have q0 := cell_obj (i := 0) HX5.out rfl
        have q1 := cell_obj (i := 1) HX5.out rfl
        have q2 := cell_obj (i := 2) HX5.out rfl
        have p0 := free_obj (i := 0) HX5.out
        have p1 := free_obj (i := 1) HX5.out
        have p2 := free_obj (i := 2) HX5.out
        obtain ⟨vb, hob, -⟩ := HR5.out
        have x1 := cell_obj (i := 1) hob (v := .bool false) rfl
        have y1 := free_obj (i := 1) hob
        clear hob
        go_wp2_with fail
        refine (valid_any ⟨3, 0, n⟩ _).mono ?_
        rintro e w4 ⟨rfl, hL4⟩
        clear r0 r1 r2 z0 z1 z2 q0 q1 q2 p0 p1 p2 x1 y1
        have HR4 := hid (HR5.out.later hL4)
        have HO4 := hid (hL4.obj HO5.out)
        have HX4 := hid (hL4.obj HX5.out)
        have HK4 := hid (HK5.out.more hL4)
        clear hL4
        have r0 := cell_obj (i := 0) HO4.out rfl
        have r1 := cell_obj (i := 1) HO4.out rfl
        have r2 := cell_obj (i := 2) HO4.out rfl
        have z0 := free_obj (i := 0) HO4.out
        have z1 := free_obj (i := 1) HO4.out
        have z2 := free_obj (i := 2) HO4.out
        have q0 := cell_obj (i := 0) HX4.out rfl
        have q1 := cell_obj (i := 1) HX4.out rfl
        have q2 := cell_obj (i := 2) HX4.out rfl
        have p0 := free_obj (i := 0) HX4.out
        have p1 := free_obj (i := 1) HX4.out
        have p2 := free_obj (i := 2) HX4.out
        obtain ⟨vb, hob, -⟩ := HR4.out
        have x1 := cell_obj (i := 1) hob (v := .bool false) rfl
        have y1 := free_obj (i := 1) hob
        clear hob
        cases hv : validV ⟨3, 0, n⟩ with
        | false =>
          have HD : Hid (dVal (ch :: r) = none) := hid (by simp only [dVal]; rw [← HM.out, HF.out]; simp [hv])
          clear hv
          go_wp2_with fail
          refine bodyPost_ret (v := zeroV.v) ?_ rfl (valueTo_no HD.out rfl ((HR4.out.put true).1.others HT.out _ _ _) (keeps_others (HK4.out.trans (HR4.out.put true).2) (Nat.le_refl _) _ _ _))
          rw [results_cell2 (t := 2) (ty := 52) rfl]
          go_simp
          try exact ⟨rfl, rfl, rfl⟩
        | true =>
          have HD : Hid (dVal (ch :: r) = some (⟨3, 0, n⟩, _)) := hid (by simp only [dVal]; rw [← HM.out, HF.out]; simp only [hv, if_true]; rfl)
          clear hv
          go_wp2_with fail
          refine bodyPost_ret (v := (⟨3, 0, n⟩ : Val).v) ?_ rfl (valueTo_yes HD.out rfl ((HR4.out.put false).1.others HT.out _ _ _) (keeps_others (HK4.out.trans (HR4.out.put false).2) (Nat.le_refl _) _ _ _))
          rw [results_cell2 (t := 2) (ty := 52) rfl]
          go_simp
          try exact ⟨rfl, rfl, rfl⟩
    have h1' : ¬ (m : Int) = 1 := by omega
    have h2' : ¬ (m : Int) = 2 := by omega
    have h3' : ¬ (m : Int) = 3 := by omega
    have HF : Hid (dFill (m : Int) r = some (⟨m, 0, ⟨#[]⟩⟩, r)) := hid (by unfold dFill; rw [if_neg (by omega), if_neg (by omega)])
    clear hm1 hm2 hm3
    have r0 := cell_obj (i := 0) HO.out rfl
    have r1 := cell_obj (i := 1) HO.out rfl
    have r2 := cell_obj (i := 2) HO.out rfl
    have z0 := free_obj (i := 0) HO.out
    have z1 := free_obj (i := 1) HO.out
    have z2 := free_obj (i := 2) HO.out
    have q0 := cell_obj (i := 0) HX.out rfl
    have q1 := cell_obj (i := 1) HX.out rfl
    have q2 := cell_obj (i := 2) HX.out rfl
    have p0 := free_obj (i := 0) HX.out
    have p1 := free_obj (i := 1) HX.out
    have p2 := free_obj (i := 2) HX.out
    obtain ⟨vb, hob, -⟩ := HR1.out
    have x1 := cell_obj (i := 1) hob (v := .bool false) rfl
    have y1 := free_obj (i := 1) hob
    clear hob
    go_wp2_with fail
    refine (valid_any ⟨m, 0, ⟨#[]⟩⟩ _).mono ?_
    rintro e w4 ⟨rfl, hL4⟩
    clear r0 r1 r2 z0 z1 z2 q0 q1 q2 p0 p1 p2 x1 y1
    have HR4 := hid (HR1.out.later hL4)
    have HO4 := hid (hL4.obj HO.out)
    have HX4 := hid (hL4.obj HX.out)
    have HK4 := hid (HK1.out.more hL4)
    clear hL4
    have r0 := cell_obj (i := 0) HO4.out rfl
    have r1 := cell_obj (i := 1) HO4.out rfl
    have r2 := cell_obj (i := 2) HO4.out rfl
    have z0 := free_obj (i := 0) HO4.out
    have z1 := free_obj (i := 1) HO4.out
    have z2 := free_obj (i := 2) HO4.out
    have q0 := cell_obj (i := 0) HX4.out rfl
    have q1 := cell_obj (i := 1) HX4.out rfl
    have q2 := cell_obj (i := 2) HX4.out rfl
    have p0 := free_obj (i := 0) HX4.out
    have p1 := free_obj (i := 1) HX4.out
    have p2 := free_obj (i := 2) HX4.out
    obtain ⟨vb, hob, -⟩ := HR4.out
    have x1 := cell_obj (i := 1) hob (v := .bool false) rfl
    have y1 := free_obj (i := 1) hob
    clear hob
    cases hv : validV ⟨m, 0, ⟨#[]⟩⟩ with
    | false =>
      have HD : Hid (dVal (ch :: r) = none) := hid (by simp only [dVal]; rw [← HM.out, HF.out]; simp [hv])
      clear hv
      go_wp2_with fail
      refine bodyPost_ret (v := zeroV.v) ?_ rfl (valueTo_no HD.out rfl ((HR4.out.put true).1.others HT.out _ _ _) (keeps_others (HK4.out.trans (HR4.out.put true).2) (Nat.le_refl _) _ _ _))
      rw [results_cell2 (t := 2) (ty := 52) rfl]
      go_simp
      try exact ⟨rfl, rfl, rfl⟩
    | true =>
      have HD : Hid (dVal (ch :: r) = some (⟨m, 0, ⟨#[]⟩⟩, _)) := hid (by simp only [dVal]; rw [← HM.out, HF.out]; simp only [hv, if_true]; rfl)
      clear hv
      go_wp2_with fail
      refine bodyPost_ret (v := (⟨m, 0, ⟨#[]⟩⟩ : Val).v) ?_ rfl (valueTo_yes HD.out rfl ((HR4.out.put false).1.others HT.out _ _ _) (keeps_others (HK4.out.trans (HR4.out.put false).2) (Nat.le_refl _) _ _ _))
      rw [results_cell2 (t := 2) (ty := 52) rfl]
      go_simp
      try exact ⟨rfl, rfl, rfl⟩
end Go.Proofs.YtgcnchmnciihnaaGreatDoor
namespace Go.Proofs.YtgcnchmnciihnaaGreatDoor
set_option linter.unusedSimpArgs false
set_option linter.unusedVariables false
open Go.RowKit

set_option maxRecDepth 100000 in
set_option maxHeartbeats 2000000 in
theorem put_int (B : Nat) (v : Value) (l : List UInt8) (n : Int) (w : World) (hn : (Lit.int .i64 n).wf = true) (hown : w.ownsRow B 5 1 v l.length (byteCells l)) (hB : B ≤ w.heap.size) (hsz : l.length + 12 ≤ 70368744177664) :
    Calls Tryz.prog 28 #[v, .int .i64 n] w (PutTo 5 w B v (l ++ encInt n)) := by
  obtain ⟨ii, hi, hz0, hz1, hz2⟩ := info_parts infoU8
  have HI := hid hi; have HZ0 := hid hz0; have HZ1 := hid hz1; have HZ2 := hid hz2; clear hi hz0 hz1 hz2
  have hn' : -9223372036854775808 ≤ n ∧ n ≤ 9223372036854775807 := by simpa [Lit.wf, IntKind.min, IntKind.max, IntKind.bits, IntKind.signed] using hn
  obtain ⟨h1, h2⟩ := hn'
  have HO := hid hown
  have hlen := encInt_length n
  have HZL := hid (zz_lt h1 h2)
  clear hn hown
  go_enter Tryz.func28, Tryz.ntmps28
  go_wp2_with fail
  go_loopw [5, 0] (fun uv bv wr => ∃ (u : Nat) (pre : List UInt8), u < 2 ^ 64 ∧ uv = .int .u64 u ∧ Put 5 w B v (l ++ pre) bv wr ∧ Hid (pre ++ encU u = encInt n)) (fun uv _ _ => (intOf uv).toNat)
  case atStart => exact ⟨zz n, [], HZL.out, congrArg (Value.int .u64) (zz_walk h1 h2), by rw [List.append_nil]; exact Put.refl HO.out, hid rfl⟩
  case round =>
    obtain ⟨u, pre, hu, rfl, hput, hpre⟩ := hrel
    have HP := hid hput
    clear hput
    have hpl : pre.length ≤ 11 := by have := congrArg List.length hpre.out; rw [List.length_append] at this; omega
    have hub : B ≤ wr.heap.size := Nat.le_trans hB HP.out.keep.size
    have hwu : (u : Int) < 18446744073709551616 := by omega
    have hu0 : (0 : Int) ≤ u := by omega
    by_cases h7 : 127 < u
    · have h7' : (127 : Int) < u := by omega
      have HE := hid (encU_ge (u := u) (by omega) hu)
      go_wp2_with (at_builtin; go_loud (refine wpList_put_byte rfl _ _ 35 rfl B 5 ii Tryz.underlying35 HI.out HZ0.out HZ1.out HZ2.out _ (l ++ pre) rfl (owns_later HP.out.own (Later.alloc _ _)) wr.heap.size _ rfl (cell_obj (obj_new _ _) rfl) _ (or128 u) ?c1 ?c2 ?_))
      case c1 => first | omega | (rw [List.length_append]; omega) | (simp only [List.length_append]; omega)
      case c2 => first | omega | (simp; omega)
      intro v2 w2 hp2
      have HP2 := hid (HP.out.trans (Put.ahead (Later.alloc _ _) hp2))
      clear hp2
      go_wp2
      go_roundw
      case rel => exact ⟨u / 128, pre ++ [UInt8.ofNat (u % 128 + 128)], by omega, by go_num, by simpa [List.append_assoc] using HP2.out, hid (by rw [List.append_assoc, List.singleton_append, ← HE.out]; exact hpre.out)⟩
      case measure => simp [intOf]; omega
    · have h7' : ¬ (127 : Int) < u := by omega
      have HE := hid (encU_lt (u := u) (by omega))
      have hb8 : (u : Int) = ((UInt8.ofNat u).toNat : Int) := by rw [UInt8.toNat_ofNat']; omega
      have HB8 := hid hb8
      clear hb8
      go_wp2_with (at_builtin; go_loud (refine wpList_put_byte rfl _ _ 35 rfl B 5 ii Tryz.underlying35 HI.out HZ0.out HZ1.out HZ2.out _ (l ++ pre) rfl (owns_later HP.out.own (Later.alloc _ _)) wr.heap.size _ rfl (cell_obj (obj_new _ _) rfl) _ HB8.out ?c1 ?c2 ?_))
      case c1 => first | omega | (rw [List.length_append]; omega) | (simp only [List.length_append]; omega)
      case c2 => first | omega | (simp; omega)
      intro v2 w2 hp2
      have HP2 := hid (HP.out.trans (Put.ahead (Later.alloc _ _) hp2))
      clear hp2
      go_wp2
      go_ret
      have e := hpre.out
      rw [HE.out] at e
      refine ⟨_, rfl, ?_⟩
      rw [← e]
      simpa [List.append_assoc] using HP2.out

set_option maxRecDepth 100000 in
set_option maxHeartbeats 1000000 in
theorem put_text (B : Nat) (v : Value) (l : List UInt8) (s : ByteArray) (w : World) (hown : w.ownsRow B 5 1 v l.length (byteCells l)) (hB : B ≤ w.heap.size) (hsz : l.length + 12 + s.size ≤ 70368744177664) :
    Calls Tryz.prog 48 #[v, .string s] w (PutTo 5 w B v (l ++ encText s)) := by
  obtain ⟨ii, hi, hz0, hz1, hz2⟩ := info_parts infoU8
  have HI := hid hi; have HZ0 := hid hz0; have HZ1 := hid hz1; have HZ2 := hid hz2; clear hi hz0 hz1 hz2
  have HO := hid hown
  clear hown
  have hss : IntKind.i64.wrap (s.size : Int) = s.size := IntWalk.i64_in _ (by omega)
  have hlen := encInt_length (s.size : Int)
  go_enter Tryz.func48, Tryz.ntmps48
  go_wp2_with fail
  refine (put_int B v l s.size _ (by simp [Lit.wf, IntKind.min, IntKind.max, IntKind.bits, IntKind.signed]; omega) HO.out hB (by omega)).mono ?_
  rintro e w1 ⟨v1, rfl, hp⟩
  have HP := hid hp
  clear hp
  go_wp2_with (at_builtin; go_loud (refine wpList_put_text rfl _ _ 35 9 rfl B 5 ii Tryz.underlying35 Tryz.underlying9 HI.out HZ0.out HZ1.out HZ2.out _ (l ++ encInt s.size) rfl HP.out.own s rfl ?c1 ?c2 ?_))
  case c1 => first | omega | (rw [List.length_append]; omega) | (simp only [List.length_append]; omega)
  case c2 => exact Nat.le_trans hB HP.out.keep.size
  intro v2 w2 hp2
  have HP2 := hid (HP.out.trans hp2)
  clear hp2
  go_wp2
  go_ret
  refine ⟨v2, rfl, ?_⟩
  rw [encText]
  simpa only [List.append_assoc] using HP2.out
end Go.Proofs.YtgcnchmnciihnaaGreatDoor
