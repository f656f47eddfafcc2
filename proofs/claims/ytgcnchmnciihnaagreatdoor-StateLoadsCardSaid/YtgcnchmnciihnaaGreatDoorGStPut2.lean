/-
  PROVED HERE: the contract of Store.Put at a key of the store's and a window.
-/
import Derived.Test.YtgcnchmnciihnaaGreatDoorGStPut
import Derived.Deep.RegionHeld
namespace Go.Proofs.YtgcnchmnciihnaaGreatDoor
set_option linter.unusedSimpArgs false
set_option linter.unusedVariables false
open Go.RowKit

/-- what a look-up gives, for a walk: a cell's parts, and what it weighs. -/
theorem look_parts {V : Nat → Prop} {w : World} {S M : Nat} {lo hi : Int} {L : List CellP} (h : StAt V w S M lo hi L) {c : CellP} (hi' : IdOk (idC c)) :
    ∃ (a : Option Addr) (n d : Nat) (f t : Int) (b : Option Addr) (m e : Nat) (bb : Bool), (∀ w', Later w w' → (Instr.lookup 60 (.map (some M)) (keyV (idC c)) true).run Tryz.prog w' = .ok (.tuple #[.agg #[.slice a n d, .int .i64 f, .int .i64 t, .slice b m e], .bool bb]) w') ∧
      n ≤ 67108864 ∧ m ≤ 67108864 ∧ weightL (insC c L) + (if bb then m + 64 * n + 32 else 0) = weightL L + c.weight ∧ (if bb then m + 64 * n + 32 else 0) ≤ weightL L := by
  obtain ⟨u, b, hrun, (⟨rfl, x, hx, e, hu⟩ | ⟨rfl, hno, rfl⟩)⟩ := h.map.look' h.ids hi'
  · obtain ⟨p1, d1, p2, d2, rfl, -, -⟩ := cell_val hu
    have h1 := weightL_mem hx
    have h2 := h.st.full
    have h3 : x.weight = x.data.length + 64 * x.key.length + 32 := rfl
    have h4 := weight_old h.st.sorted hx e
    have h5 := insC_weight (c := c) h.st.sorted
    exact ⟨p1, _, d1, _, _, p2, _, d2, true, hrun, by omega, by omega, by simp only [if_true]; omega, by simp only [if_true]; omega⟩
  · have h5 := insC_weight (c := c) h.st.sorted
    rw [weight_new hno] at h5
    exact ⟨none, 0, 0, 0, 0, none, 0, 0, false, hrun, by omega, by omega, by simp only [if_false, Bool.false_eq_true]; omega, by simp⟩
theorem put_place {W : World} {P9 P10 N : Nat} {zs : Array Value} {T10 : TypeId} (h9 : W.heap[P9]? = some (.cells #[.string ⟨#[]⟩, .int .i64 0, .int .i64 0] 65 (0, 0))) (h10 : W.heap[P10]? = some (.cells zs T10 (0, 0))) (hne : P9 ≠ P10) (hN : N ≤ P9) (f t : Int) (s : ByteArray) :
    ∃ wA, wA = ((W.setCell ⟨P9, 0, none⟩ (.string s)).setCell ⟨P9, 1, none⟩ (.int .i64 f)).setCell ⟨P9, 2, none⟩ (.int .i64 t) ∧ ((∀ w2 : World, N = w2.heap.size → Later w2 W → Later w2 wA) ∧ Keeps (fun b => b ≠ P9) W wA) ∧
      wA.heap[P9]? = some (.cells #[.string s, .int .i64 f, .int .i64 t] 65 (0, 0)) ∧ wA.heap[P10]? = some (.cells zs T10 (0, 0)) := by
  have hk : Keeps (fun b => b ≠ P9) W (((W.setCell ⟨P9, 0, none⟩ (.string s)).setCell ⟨P9, 1, none⟩ (.int .i64 f)).setCell ⟨P9, 2, none⟩ (.int .i64 t)) := (((Keeps.refl _ _).setCell (.inl (by simp)) _).setCell (.inl (by simp)) _).setCell (.inl (by simp)) _
  refine ⟨_, rfl, ⟨fun w2 hN2 hL => ?_, hk⟩, ?_, hk.obj (Ne.symm hne) h10⟩
  · exact ((hL.new (p := ⟨P9, 0, none⟩) (by simp only; omega) _).new (p := ⟨P9, 1, none⟩) (by simp only; omega) _).new (p := ⟨P9, 2, none⟩) (by simp only; omega) _
  · have h1 := obj_setCell (i := 2) (obj_setCell (i := 1) (obj_setCell (i := 0) h9 (.string s)) (.int .i64 f)) (.int .i64 t)
    simpa only [List.setIfInBounds_toArray, List.set] using h1
theorem put_cell {W : World} {P9 P10 N : Nat} {zs : Array Value} {T9 : TypeId} (h10 : W.heap[P10]? = some (.cells #[.slice none 0 0, .int .i64 0, .int .i64 0, .slice none 0 0] 57 (0, 0))) (h9 : W.heap[P9]? = some (.cells zs T9 (0, 0))) (hne : P10 ≠ P9) (hN : N ≤ P10) (f t : Int) (x y : Value) :
    ∃ wB, wB = (((W.setCell ⟨P10, 0, none⟩ x).setCell ⟨P10, 1, none⟩ (.int .i64 f)).setCell ⟨P10, 2, none⟩ (.int .i64 t)).setCell ⟨P10, 3, none⟩ y ∧ ((∀ w2 : World, N = w2.heap.size → Later w2 W → Later w2 wB) ∧ Keeps (fun b => b ≠ P10) W wB) ∧
      wB.heap[P10]? = some (.cells #[x, .int .i64 f, .int .i64 t, y] 57 (0, 0)) ∧ wB.heap[P9]? = some (.cells zs T9 (0, 0)) := by
  have hk : Keeps (fun b => b ≠ P10) W ((((W.setCell ⟨P10, 0, none⟩ x).setCell ⟨P10, 1, none⟩ (.int .i64 f)).setCell ⟨P10, 2, none⟩ (.int .i64 t)).setCell ⟨P10, 3, none⟩ y) := ((((Keeps.refl _ _).setCell (.inl (by simp)) _).setCell (.inl (by simp)) _).setCell (.inl (by simp)) _).setCell (.inl (by simp)) _
  refine ⟨_, rfl, ⟨fun w2 hN2 hL => ?_, hk⟩, ?_, hk.obj (Ne.symm hne) h9⟩
  · exact (((hL.new (p := ⟨P10, 0, none⟩) (by simp only; omega) _).new (p := ⟨P10, 1, none⟩) (by simp only; omega) _).new (p := ⟨P10, 2, none⟩) (by simp only; omega) _).new (p := ⟨P10, 3, none⟩) (by simp only; omega) _
  · have h1 := obj_setCell (i := 3) (obj_setCell (i := 2) (obj_setCell (i := 1) (obj_setCell (i := 0) h10 x) (.int .i64 f)) (.int .i64 t)) y
    simpa only [List.setIfInBounds_toArray, List.set] using h1
section
variable {V : Nat → Prop} {S M : Nat} {lo hi : Int} {L : List CellP}
set_option maxRecDepth 100000 in
set_option maxHeartbeats 8000000 in
theorem put_yes (c : CellP) (kv dv : Value) (w : World) (h : StAt V w S M lo hi L) (hk : IsVals w kv c.key) (hd : IsBytes w dv c.data) (hg : ∀ x ∈ c.key, ValOk x) (ht : PowTab w) (hdl : c.data.length ≤ 140737488355328) (hyes : (ownsK lo hi c.key && winOk c.win) = true) :
    Calls Tryz.prog 6 #[.pointer (some ⟨S, 0, none⟩), kv, .agg #[.int .i64 c.win.1, .int .i64 c.win.2], dv] w (PutWith V w S M lo hi L c) := by
  have hyes2 := hyes
  rw [Bool.and_eq_true] at hyes2
  have HIO := hid (id_ok hyes2.1 hyes2.2 hg)
  have HYES := hid hyes
  have hwin := winOk_range hyes2.2
  have HOWN := hid fun W (hL : Later w W) => owns_any (V := V) c.key kv W (h.later hL) (hk.later hL) hg (ht.later hL)
  have HTRUE := hid hyes2.1
  obtain ⟨ka, kc, hkv, -⟩ := id hk
  obtain ⟨da, dc, hdv, -⟩ := id hd
  subst hkv hdv
  have HGC := hid hg
  have HH := hid h; have HK := hid hk; have HD := hid hd; have HDL := hid hdl
  obtain ⟨C, hC⟩ : ∃ C, C = c := ⟨_, rfl⟩
  have HC := hid hC
  rw [← hC] at HIO HYES
  have h8 : c.key.length ≤ 8 := (validR_key (ownsK_valid hyes2.1).1).1
  have HK8 := hid h8
  obtain ⟨key, ⟨f, t⟩, data⟩ := c
  simp only at HK HD HDL HOWN HTRUE hwin h8 HK8 ⊢
  obtain ⟨w1, w2, w3⟩ := hwin
  have n1 : ¬ f < -1048576 := by omega
  have n2 : ¬ t ≤ f := by omega
  have n3 : ¬ 1099512676353 < t := by omega
  have HKEY : Hid (keyV (idC C) = .agg #[.string (strB (encVals key)), .int .i64 f, .int .i64 t]) := hid (by rw [hC]; rfl)
  have HWT : Hid ((C.weight : Int) = data.length + 64 * key.length + 32) := hid (by rw [hC]; unfold CellP.weight; simp only; omega)
  clear h hk hd hg ht hdl hyes hyes2 hC w1 w2 w3
  rw [← HC.out]
  go_enter Tryz.func6, Tryz.ntmps6
  go_wp2_with fail
  refine (HOWN.out _ (Later.alloc w _)).mono ?_
  rintro e w2 ⟨rfl, hL2⟩
  rw [HTRUE.out]
  have HL2 := hid (Later.trans _ _ _ (Later.alloc w _) hL2)
  have hX := hL2.obj (obj_new w (.cells #[.int .i64 f, .int .i64 t] 34 (0, 0)))
  have HX := hid hX
  have x0 := cell_obj (i := 0) hX (v := .int .i64 f) rfl
  have x1 := cell_obj (i := 1) hX (v := .int .i64 t) rfl
  clear hL2 hX HOWN
  go_upto_region 3 with (fail)
  clear n1 n2 n3
  have HIO2 : Hid (IdOk ((f, t), key)) := hid (by have h := HIO.out; rw [HC.out] at h; exact h)
  have HKEY2 : Hid (keyV ((f, t), key) = .agg #[.string (strB (encVals key)), .int .i64 f, .int .i64 t]) := hid rfl
  have HKV : Hid (IsVals w2 (.slice ka key.length kc) key ∧ IsBytes w2 (.slice da data.length dc) data) := hid ⟨HK.out.later HL2.out, SliceOf.bytes_later HD.out HL2.out⟩
  obtain ⟨R1, hR1⟩ : ∃ RR_ : (Nat → Value) → World → Prop, RR_ = (fun us wy => ∃ (P9 P10 : Nat) (a4 : Option Addr) (k4 : Nat) (b7 : Option Addr) (m7 : Nat), us 9 = .pointer (some ⟨P9, 0, none⟩) ∧ us 10 = .pointer (some ⟨P10, 0, none⟩) ∧ Later w2 wy ∧ wy.heap[P9]? = some (.cells #[.string (strB (encVals key)), .int .i64 f, .int .i64 t] 65 (0, 0)) ∧ wy.heap[P10]? = some (.cells #[.slice a4 key.length k4, .int .i64 f, .int .i64 t, .slice b7 data.length m7] 57 (0, 0)) ∧ w2.heap.size ≤ P9 ∧ w2.heap.size ≤ P10 ∧ wy.ownsRow w2.heap.size 52 3 (.slice a4 key.length k4) key.length (valCells key) ∧ wy.ownsRow w2.heap.size 5 1 (.slice b7 data.length m7) data.length (byteCells data)) := ⟨_, rfl⟩
  have HR1 := hid hR1; clear hR1
  refine wp_cut_frame' [false, false, false, false, false, false, false, false, false, true, true, false, false, false, false, false, false, false, false, false, false, false, false, false, false, false, false, false, false, false, false, false, false, false, false, false, true, true, true, true, true, true, true, true, true] R1 _ HR1.out ?_ ?_
  · refine wp_region_held_drew (S := fun W => Later w2 W) (by kernel_rfl) (Later.drew w2) (fun hS => ?_)
    obtain ⟨w100, hw100⟩ : ∃ W, W = w2.drew := ⟨_, rfl⟩
    rw [← hw100] at hS ⊢
    clear hw100
    refine wpAnyH_take (i := 0) (v := .slice ka key.length kc) rfl (by kernel_rfl) (by kernel_rfl) (by kernel_rfl) (fun _ _ _ h => h) (Or.inl ⟨by rfl, ?_⟩) hS ?_
    · intro w _; go_simp
    try simp only [Act.put, List.setIfInBounds_toArray, List.set]
    refine wpAnyH_take (i := 3) (v := .slice ka key.length kc) rfl (by kernel_rfl) (by kernel_rfl) (by kernel_rfl) (fun _ _ _ h => h) (Or.inl ⟨by rfl, ?_⟩) hS ?_
    · intro w _; go_simp
    try simp only [Act.put, List.setIfInBounds_toArray, List.set]
    refine wpAnyH_take (i := 6) (v := .slice da data.length dc) rfl (by kernel_rfl) (by kernel_rfl) (by kernel_rfl) (fun _ _ _ h => h) (Or.inl ⟨by rfl, ?_⟩) hS ?_
    · intro w _; go_simp
    try simp only [Act.put, List.setIfInBounds_toArray, List.set]
    refine wpAnyH_take (i := 1) (v := .agg #[.int .i64 f, .int .i64 t]) rfl (by kernel_rfl) (by kernel_rfl) (by kernel_rfl) (fun _ _ _ h => h) (Or.inl ⟨by rfl, ?_⟩) hS ?_
    · intro w hS'
      have z0 := hS'.cell x0; have z1 := hS'.cell x1
      clear hS hS'
      go_simp
    try simp only [Act.put, List.setIfInBounds_toArray, List.set]
    refine wpAnyH_take (i := 5) (v := .agg #[.int .i64 f, .int .i64 t]) rfl (by kernel_rfl) (by kernel_rfl) (by kernel_rfl) (fun _ _ _ h => h) (Or.inl ⟨by rfl, ?_⟩) hS ?_
    · intro w hS'
      have z0 := hS'.cell x0; have z1 := hS'.cell x1
      clear hS hS'
      go_simp
    try simp only [Act.put, List.setIfInBounds_toArray, List.set]
    refine wpAnyH_ready (rs := [2, 9, 10]) (by kernel_rfl) (by simp) (AllReadyH.cons rfl (fun K hK => ?_) (AllReadyH.cons rfl (fun K hK => ?_) (AllReadyH.cons rfl (fun K hK => ?_) AllReadyH.nil)))
    · go_simp
      refine (at_any ((f, t), key) _ _ (HKV.out.1.later hS) HIO2.out).mono ?_
      rintro e w101 ⟨rfl, hL101⟩
      rw [HKEY2.out]
      refine hK.out _ _ (Later.trans _ _ _ hS hL101) (fun hS => ?_)
      clear hK K
      try simp only [Act.put, List.setIfInBounds_toArray, List.set]
      clear hL101
      refine wpAnyH_ready (rs := [4, 9, 10]) (by kernel_rfl) (by simp) (AllReadyH.cons rfl (fun K hK => ?_) (AllReadyH.cons rfl (fun K hK => ?_) (AllReadyH.cons rfl (fun K hK => ?_) AllReadyH.nil)))
      · go_simp
        refine (clone_vals key _ _ (HKV.out.1.later hS) (by have := HK8.out; omega)).mono ?_
        rintro e w102 ⟨v4, rfl, hc4, hL102⟩
        obtain ⟨a4, k4, e4⟩ := ownsRow_slice hc4.1
        subst e4
        have HK4 := hid (ownsRow_base hc4.1 hS.size)
        clear hc4
        refine hK.out _ _ (Later.trans _ _ _ hS hL102) (fun hS => ?_)
        clear hK K
        try simp only [Act.put, List.setIfInBounds_toArray, List.set]
        clear hL102
        refine wpAnyH_ready (rs := [7, 9, 10]) (by kernel_rfl) (by simp) (AllReadyH.cons rfl (fun K hK => ?_) (AllReadyH.cons rfl (fun K hK => ?_) (AllReadyH.cons rfl (fun K hK => ?_) AllReadyH.nil)))
        · go_simp
          refine (clone_bytes data _ _ (SliceOf.bytes_later HKV.out.2 hS) HDL.out).mono ?_
          rintro e w103 ⟨v7, rfl, hc7, hL103⟩
          obtain ⟨b7, m7, e7⟩ := ownsRow_slice hc7
          subst e7
          have HD7 := hid (ownsRow_base hc7 hS.size)
          clear hc7
          replace HK4 := hid (owns_at HK4.out hL103)
          refine hK.out _ _ (Later.trans _ _ _ hS hL103) (fun hS => ?_)
          clear hK K
          try simp only [Act.put, List.setIfInBounds_toArray, List.set]
          clear hL103
          refine wpAnyH_take (i := 8) (v := .agg #[.slice a4 key.length k4, .int .i64 f, .int .i64 t, .slice b7 data.length m7]) rfl (by kernel_rfl) (by kernel_rfl) (by kernel_rfl) (fun _ _ _ h => h) (Or.inl ⟨by rfl, ?_⟩) hS ?_
          · intro w _; go_simp
          try simp only [Act.put, List.setIfInBounds_toArray, List.set]
          refine wpAnyH_ready (rs := [9, 10]) (by kernel_rfl) (by simp) (AllReadyH.cons rfl (fun K hK => ?_) (AllReadyH.cons rfl (fun K hK => ?_) AllReadyH.nil))
          · go_simp
            have HO9 := hid (obj_new w103 (.cells #[.string ⟨#[]⟩, .int .i64 0, .int .i64 0] 65 (0, 0)))
            have HZ9 := hid hS.size
            have hL104 := Later.alloc w103 (.cells #[.string ⟨#[]⟩, .int .i64 0, .int .i64 0] 65 (0, 0))
            obtain ⟨P9, hP9⟩ : ∃ P, P = w103.heap.size := ⟨_, rfl⟩
            obtain ⟨w104, hw104⟩ : ∃ W, W = w103.alloc (.cells #[.string ⟨#[]⟩, .int .i64 0, .int .i64 0] 65 (0, 0)) := ⟨_, rfl⟩
            rw [← hP9, ← hw104] at HO9
            rw [← hP9] at HZ9
            rw [← hw104] at hL104
            rw [← hP9, ← hw104]
            clear hP9 hw104
            replace HK4 := hid (owns_at HK4.out hL104)
            replace HD7 := hid (owns_at HD7.out hL104)
            refine hK.out _ _ (Later.trans _ _ _ hS hL104) (fun hS => ?_)
            clear hK K
            try simp only [Act.put, List.setIfInBounds_toArray, List.set]
            clear hL104
            refine wpAnyH_ready (rs := [10]) (by kernel_rfl) (by simp) (AllReadyH.cons rfl (fun K hK => ?_) AllReadyH.nil)
            · go_simp
              have HO10 := hid (obj_new w104 (.cells #[.slice none 0 0, .int .i64 0, .int .i64 0, .slice none 0 0] 57 (0, 0)))
              have HZ10 := hid hS.size
              have hL105 := Later.alloc w104 (.cells #[.slice none 0 0, .int .i64 0, .int .i64 0, .slice none 0 0] 57 (0, 0))
              obtain ⟨P10, hP10⟩ : ∃ P, P = w104.heap.size := ⟨_, rfl⟩
              obtain ⟨w105, hw105⟩ : ∃ W, W = w104.alloc (.cells #[.slice none 0 0, .int .i64 0, .int .i64 0, .slice none 0 0] 57 (0, 0)) := ⟨_, rfl⟩
              rw [← hP10, ← hw105] at HO10
              rw [← hP10] at HZ10
              rw [← hw105] at hL105
              rw [← hP10, ← hw105]
              clear hP10 hw105
              replace HK4 := hid (owns_at HK4.out hL105)
              replace HD7 := hid (owns_at HD7.out hL105)
              replace HO9 := hid (hL105.obj HO9.out)
              refine hK.out _ _ (Later.trans _ _ _ hS hL105) (fun hS => ?_)
              clear hK K
              try simp only [Act.put, List.setIfInBounds_toArray, List.set]
              clear hL105
              have hne : P9 ≠ P10 := fun e => by have h9 := HO9.out; have h10 := HO10.out; rw [e, h10] at h9; simp at h9
              have c90 := cell_obj (i := 0) HO9.out (v := .string ⟨#[]⟩) rfl
              have c91 := cell_obj (i := 1) HO9.out (v := .int .i64 0) rfl
              have c92 := cell_obj (i := 2) HO9.out (v := .int .i64 0) rfl
              have f90 := free_obj (i := 0) HO9.out
              have f91 := free_obj (i := 1) HO9.out
              have f92 := free_obj (i := 2) HO9.out
              refine wpAnyH_ready (rs := [11]) (by kernel_rfl) (by simp) (AllReadyH.cons rfl (fun K hK => ?_) AllReadyH.nil)
              go_simp
              clear c90 c91 c92 f90 f91 f92
              obtain ⟨wA, hwA, hLA, hA9, hA10⟩ := put_place HO9.out HO10.out hne (by have := HZ9.out; exact this) f t (strB (encVals key))
              rw [← hwA]
              have HKA := hid (owns_keep HK4.out (hLA.2) (fun g hg e => own_ne HK4.out HO9.out (by decide) (by rw [hg, e])))
              have HDA := hid (owns_keep HD7.out (hLA.2) (fun g hg e => own_ne HD7.out HO9.out (by decide) (by rw [hg, e])))
              refine hK.out _ _ (hLA.1 w2 rfl hS) (fun hS => ?_)
              clear hK K hwA
              try simp only [Act.put, List.setIfInBounds_toArray, List.set]
              have c100 := cell_obj (i := 0) hA10 (v := .slice none 0 0) rfl
              have c101 := cell_obj (i := 1) hA10 (v := .int .i64 0) rfl
              have c102 := cell_obj (i := 2) hA10 (v := .int .i64 0) rfl
              have c103 := cell_obj (i := 3) hA10 (v := .slice none 0 0) rfl
              have f100 := free_obj (i := 0) hA10
              have f101 := free_obj (i := 1) hA10
              have f102 := free_obj (i := 2) hA10
              have f103 := free_obj (i := 3) hA10
              refine wpAnyH_ready (rs := [12]) (by kernel_rfl) (by simp) (AllReadyH.cons rfl (fun K hK => ?_) AllReadyH.nil)
              go_simp
              clear c100 c101 c102 c103 f100 f101 f102 f103
              obtain ⟨wB, hwB, hLB, hB10, hB9⟩ := put_cell hA10 hA9 (Ne.symm hne) HZ10.out f t (.slice a4 key.length k4) (.slice b7 data.length m7)
              rw [← hwB]
              refine hK.out _ _ (hLB.1 w2 rfl hS) (fun hS => ?_)
              clear hK K hwB
              try simp only [Act.put, List.setIfInBounds_toArray, List.set]
              refine wpAnyH_done (by kernel_rfl) ?_ _
              refine Meet.mk' HR1.out rfl ?_
              exact ⟨P9, P10, a4, k4, b7, m7, rfl, rfl, hS, hB9, hB10, HZ9.out, HZ10.out, owns_keep HKA.out hLB.2 (fun g hg e => own_ne HKA.out hA10 (by decide) (by rw [hg, e])), owns_keep HDA.out hLB.2 (fun g hg e => own_ne HDA.out hA10 (by decide) (by rw [hg, e]))⟩
          · go_simp
            have HO10 := hid (obj_new w103 (.cells #[.slice none 0 0, .int .i64 0, .int .i64 0, .slice none 0 0] 57 (0, 0)))
            have HZ10 := hid hS.size
            have hL106 := Later.alloc w103 (.cells #[.slice none 0 0, .int .i64 0, .int .i64 0, .slice none 0 0] 57 (0, 0))
            obtain ⟨P10, hP10⟩ : ∃ P, P = w103.heap.size := ⟨_, rfl⟩
            obtain ⟨w106, hw106⟩ : ∃ W, W = w103.alloc (.cells #[.slice none 0 0, .int .i64 0, .int .i64 0, .slice none 0 0] 57 (0, 0)) := ⟨_, rfl⟩
            rw [← hP10, ← hw106] at HO10
            rw [← hP10] at HZ10
            rw [← hw106] at hL106
            rw [← hP10, ← hw106]
            clear hP10 hw106
            replace HK4 := hid (owns_at HK4.out hL106)
            replace HD7 := hid (owns_at HD7.out hL106)
            refine hK.out _ _ (Later.trans _ _ _ hS hL106) (fun hS => ?_)
            clear hK K
            try simp only [Act.put, List.setIfInBounds_toArray, List.set]
            clear hL106
            refine wpAnyH_ready (rs := [9]) (by kernel_rfl) (by simp) (AllReadyH.cons rfl (fun K hK => ?_) AllReadyH.nil)
            · go_simp
              have HO9 := hid (obj_new w106 (.cells #[.string ⟨#[]⟩, .int .i64 0, .int .i64 0] 65 (0, 0)))
              have HZ9 := hid hS.size
              have hL107 := Later.alloc w106 (.cells #[.string ⟨#[]⟩, .int .i64 0, .int .i64 0] 65 (0, 0))
              obtain ⟨P9, hP9⟩ : ∃ P, P = w106.heap.size := ⟨_, rfl⟩
              obtain ⟨w107, hw107⟩ : ∃ W, W = w106.alloc (.cells #[.string ⟨#[]⟩, .int .i64 0, .int .i64 0] 65 (0, 0)) := ⟨_, rfl⟩
              rw [← hP9, ← hw107] at HO9
              rw [← hP9] at HZ9
              rw [← hw107] at hL107
              rw [← hP9, ← hw107]
              clear hP9 hw107
              replace HK4 := hid (owns_at HK4.out hL107)
              replace HD7 := hid (owns_at HD7.out hL107)
              replace HO10 := hid (hL107.obj HO10.out)
              refine hK.out _ _ (Later.trans _ _ _ hS hL107) (fun hS => ?_)
              clear hK K
              try simp only [Act.put, List.setIfInBounds_toArray, List.set]
              clear hL107
              have hne : P9 ≠ P10 := fun e => by have h9 := HO9.out; have h10 := HO10.out; rw [e, h10] at h9; simp at h9
              have c90 := cell_obj (i := 0) HO9.out (v := .string ⟨#[]⟩) rfl
              have c91 := cell_obj (i := 1) HO9.out (v := .int .i64 0) rfl
              have c92 := cell_obj (i := 2) HO9.out (v := .int .i64 0) rfl
              have f90 := free_obj (i := 0) HO9.out
              have f91 := free_obj (i := 1) HO9.out
              have f92 := free_obj (i := 2) HO9.out
              refine wpAnyH_ready (rs := [11]) (by kernel_rfl) (by simp) (AllReadyH.cons rfl (fun K hK => ?_) AllReadyH.nil)
              go_simp
              clear c90 c91 c92 f90 f91 f92
              obtain ⟨wA, hwA, hLA, hA9, hA10⟩ := put_place HO9.out HO10.out hne (by have := HZ9.out; exact this) f t (strB (encVals key))
              rw [← hwA]
              have HKA := hid (owns_keep HK4.out (hLA.2) (fun g hg e => own_ne HK4.out HO9.out (by decide) (by rw [hg, e])))
              have HDA := hid (owns_keep HD7.out (hLA.2) (fun g hg e => own_ne HD7.out HO9.out (by decide) (by rw [hg, e])))
              refine hK.out _ _ (hLA.1 w2 rfl hS) (fun hS => ?_)
              clear hK K hwA
              try simp only [Act.put, List.setIfInBounds_toArray, List.set]
              have c100 := cell_obj (i := 0) hA10 (v := .slice none 0 0) rfl
              have c101 := cell_obj (i := 1) hA10 (v := .int .i64 0) rfl
              have c102 := cell_obj (i := 2) hA10 (v := .int .i64 0) rfl
              have c103 := cell_obj (i := 3) hA10 (v := .slice none 0 0) rfl
              have f100 := free_obj (i := 0) hA10
              have f101 := free_obj (i := 1) hA10
              have f102 := free_obj (i := 2) hA10
              have f103 := free_obj (i := 3) hA10
              refine wpAnyH_ready (rs := [12]) (by kernel_rfl) (by simp) (AllReadyH.cons rfl (fun K hK => ?_) AllReadyH.nil)
              go_simp
              clear c100 c101 c102 c103 f100 f101 f102 f103
              obtain ⟨wB, hwB, hLB, hB10, hB9⟩ := put_cell hA10 hA9 (Ne.symm hne) HZ10.out f t (.slice a4 key.length k4) (.slice b7 data.length m7)
              rw [← hwB]
              refine hK.out _ _ (hLB.1 w2 rfl hS) (fun hS => ?_)
              clear hK K hwB
              try simp only [Act.put, List.setIfInBounds_toArray, List.set]
              refine wpAnyH_done (by kernel_rfl) ?_ _
              refine Meet.mk' HR1.out rfl ?_
              exact ⟨P9, P10, a4, k4, b7, m7, rfl, rfl, hS, hB9, hB10, HZ9.out, HZ10.out, owns_keep HKA.out hLB.2 (fun g hg e => own_ne HKA.out hA10 (by decide) (by rw [hg, e])), owns_keep HDA.out hLB.2 (fun g hg e => own_ne HDA.out hA10 (by decide) (by rw [hg, e]))⟩
        · go_simp
          have HO9 := hid (obj_new w102 (.cells #[.string ⟨#[]⟩, .int .i64 0, .int .i64 0] 65 (0, 0)))
          have HZ9 := hid hS.size
          have hL108 := Later.alloc w102 (.cells #[.string ⟨#[]⟩, .int .i64 0, .int .i64 0] 65 (0, 0))
          obtain ⟨P9, hP9⟩ : ∃ P, P = w102.heap.size := ⟨_, rfl⟩
          obtain ⟨w108, hw108⟩ : ∃ W, W = w102.alloc (.cells #[.string ⟨#[]⟩, .int .i64 0, .int .i64 0] 65 (0, 0)) := ⟨_, rfl⟩
          rw [← hP9, ← hw108] at HO9
          rw [← hP9] at HZ9
          rw [← hw108] at hL108
          rw [← hP9, ← hw108]
          clear hP9 hw108
          replace HK4 := hid (owns_at HK4.out hL108)
          refine hK.out _ _ (Later.trans _ _ _ hS hL108) (fun hS => ?_)
          clear hK K
          try simp only [Act.put, List.setIfInBounds_toArray, List.set]
          clear hL108
          refine wpAnyH_ready (rs := [7, 10]) (by kernel_rfl) (by simp) (AllReadyH.cons rfl (fun K hK => ?_) (AllReadyH.cons rfl (fun K hK => ?_) AllReadyH.nil))
          · go_simp
            refine (clone_bytes data _ _ (SliceOf.bytes_later HKV.out.2 hS) HDL.out).mono ?_
            rintro e w109 ⟨v7, rfl, hc7, hL109⟩
            obtain ⟨b7, m7, e7⟩ := ownsRow_slice hc7
            subst e7
            have HD7 := hid (ownsRow_base hc7 hS.size)
            clear hc7
            replace HK4 := hid (owns_at HK4.out hL109)
            replace HO9 := hid (hL109.obj HO9.out)
            refine hK.out _ _ (Later.trans _ _ _ hS hL109) (fun hS => ?_)
            clear hK K
            try simp only [Act.put, List.setIfInBounds_toArray, List.set]
            clear hL109
            refine wpAnyH_take (i := 8) (v := .agg #[.slice a4 key.length k4, .int .i64 f, .int .i64 t, .slice b7 data.length m7]) rfl (by kernel_rfl) (by kernel_rfl) (by kernel_rfl) (fun _ _ _ h => h) (Or.inl ⟨by rfl, ?_⟩) hS ?_
            · intro w _; go_simp
            try simp only [Act.put, List.setIfInBounds_toArray, List.set]
            refine wpAnyH_ready (rs := [10]) (by kernel_rfl) (by simp) (AllReadyH.cons rfl (fun K hK => ?_) AllReadyH.nil)
            · go_simp
              have HO10 := hid (obj_new w109 (.cells #[.slice none 0 0, .int .i64 0, .int .i64 0, .slice none 0 0] 57 (0, 0)))
              have HZ10 := hid hS.size
              have hL110 := Later.alloc w109 (.cells #[.slice none 0 0, .int .i64 0, .int .i64 0, .slice none 0 0] 57 (0, 0))
              obtain ⟨P10, hP10⟩ : ∃ P, P = w109.heap.size := ⟨_, rfl⟩
              obtain ⟨w110, hw110⟩ : ∃ W, W = w109.alloc (.cells #[.slice none 0 0, .int .i64 0, .int .i64 0, .slice none 0 0] 57 (0, 0)) := ⟨_, rfl⟩
              rw [← hP10, ← hw110] at HO10
              rw [← hP10] at HZ10
              rw [← hw110] at hL110
              rw [← hP10, ← hw110]
              clear hP10 hw110
              replace HK4 := hid (owns_at HK4.out hL110)
              replace HO9 := hid (hL110.obj HO9.out)
              replace HD7 := hid (owns_at HD7.out hL110)
              refine hK.out _ _ (Later.trans _ _ _ hS hL110) (fun hS => ?_)
              clear hK K
              try simp only [Act.put, List.setIfInBounds_toArray, List.set]
              clear hL110
              have hne : P9 ≠ P10 := fun e => by have h9 := HO9.out; have h10 := HO10.out; rw [e, h10] at h9; simp at h9
              have c90 := cell_obj (i := 0) HO9.out (v := .string ⟨#[]⟩) rfl
              have c91 := cell_obj (i := 1) HO9.out (v := .int .i64 0) rfl
              have c92 := cell_obj (i := 2) HO9.out (v := .int .i64 0) rfl
              have f90 := free_obj (i := 0) HO9.out
              have f91 := free_obj (i := 1) HO9.out
              have f92 := free_obj (i := 2) HO9.out
              refine wpAnyH_ready (rs := [11]) (by kernel_rfl) (by simp) (AllReadyH.cons rfl (fun K hK => ?_) AllReadyH.nil)
              go_simp
              clear c90 c91 c92 f90 f91 f92
              obtain ⟨wA, hwA, hLA, hA9, hA10⟩ := put_place HO9.out HO10.out hne (by have := HZ9.out; exact this) f t (strB (encVals key))
              rw [← hwA]
              have HKA := hid (owns_keep HK4.out (hLA.2) (fun g hg e => own_ne HK4.out HO9.out (by decide) (by rw [hg, e])))
              have HDA := hid (owns_keep HD7.out (hLA.2) (fun g hg e => own_ne HD7.out HO9.out (by decide) (by rw [hg, e])))
              refine hK.out _ _ (hLA.1 w2 rfl hS) (fun hS => ?_)
              clear hK K hwA
              try simp only [Act.put, List.setIfInBounds_toArray, List.set]
              have c100 := cell_obj (i := 0) hA10 (v := .slice none 0 0) rfl
              have c101 := cell_obj (i := 1) hA10 (v := .int .i64 0) rfl
              have c102 := cell_obj (i := 2) hA10 (v := .int .i64 0) rfl
              have c103 := cell_obj (i := 3) hA10 (v := .slice none 0 0) rfl
              have f100 := free_obj (i := 0) hA10
              have f101 := free_obj (i := 1) hA10
              have f102 := free_obj (i := 2) hA10
              have f103 := free_obj (i := 3) hA10
              refine wpAnyH_ready (rs := [12]) (by kernel_rfl) (by simp) (AllReadyH.cons rfl (fun K hK => ?_) AllReadyH.nil)
              go_simp
              clear c100 c101 c102 c103 f100 f101 f102 f103
              obtain ⟨wB, hwB, hLB, hB10, hB9⟩ := put_cell hA10 hA9 (Ne.symm hne) HZ10.out f t (.slice a4 key.length k4) (.slice b7 data.length m7)
              rw [← hwB]
              refine hK.out _ _ (hLB.1 w2 rfl hS) (fun hS => ?_)
              clear hK K hwB
              try simp only [Act.put, List.setIfInBounds_toArray, List.set]
              refine wpAnyH_done (by kernel_rfl) ?_ _
              refine Meet.mk' HR1.out rfl ?_
              exact ⟨P9, P10, a4, k4, b7, m7, rfl, rfl, hS, hB9, hB10, HZ9.out, HZ10.out, owns_keep HKA.out hLB.2 (fun g hg e => own_ne HKA.out hA10 (by decide) (by rw [hg, e])), owns_keep HDA.out hLB.2 (fun g hg e => own_ne HDA.out hA10 (by decide) (by rw [hg, e]))⟩
          · go_simp
            have HO10 := hid (obj_new w108 (.cells #[.slice none 0 0, .int .i64 0, .int .i64 0, .slice none 0 0] 57 (0, 0)))
            have HZ10 := hid hS.size
            have hL111 := Later.alloc w108 (.cells #[.slice none 0 0, .int .i64 0, .int .i64 0, .slice none 0 0] 57 (0, 0))
            obtain ⟨P10, hP10⟩ : ∃ P, P = w108.heap.size := ⟨_, rfl⟩
            obtain ⟨w111, hw111⟩ : ∃ W, W = w108.alloc (.cells #[.slice none 0 0, .int .i64 0, .int .i64 0, .slice none 0 0] 57 (0, 0)) := ⟨_, rfl⟩
            rw [← hP10, ← hw111] at HO10
            rw [← hP10] at HZ10
            rw [← hw111] at hL111
            rw [← hP10, ← hw111]
            clear hP10 hw111
            replace HK4 := hid (owns_at HK4.out hL111)
            replace HO9 := hid (hL111.obj HO9.out)
            refine hK.out _ _ (Later.trans _ _ _ hS hL111) (fun hS => ?_)
            clear hK K
            try simp only [Act.put, List.setIfInBounds_toArray, List.set]
            clear hL111
            refine wpAnyH_ready (rs := [7]) (by kernel_rfl) (by simp) (AllReadyH.cons rfl (fun K hK => ?_) AllReadyH.nil)
            · go_simp
              refine (clone_bytes data _ _ (SliceOf.bytes_later HKV.out.2 hS) HDL.out).mono ?_
              rintro e w112 ⟨v7, rfl, hc7, hL112⟩
              obtain ⟨b7, m7, e7⟩ := ownsRow_slice hc7
              subst e7
              have HD7 := hid (ownsRow_base hc7 hS.size)
              clear hc7
              replace HK4 := hid (owns_at HK4.out hL112)
              replace HO9 := hid (hL112.obj HO9.out)
              replace HO10 := hid (hL112.obj HO10.out)
              refine hK.out _ _ (Later.trans _ _ _ hS hL112) (fun hS => ?_)
              clear hK K
              try simp only [Act.put, List.setIfInBounds_toArray, List.set]
              clear hL112
              refine wpAnyH_take (i := 8) (v := .agg #[.slice a4 key.length k4, .int .i64 f, .int .i64 t, .slice b7 data.length m7]) rfl (by kernel_rfl) (by kernel_rfl) (by kernel_rfl) (fun _ _ _ h => h) (Or.inl ⟨by rfl, ?_⟩) hS ?_
              · intro w _; go_simp
              try simp only [Act.put, List.setIfInBounds_toArray, List.set]
              have hne : P9 ≠ P10 := fun e => by have h9 := HO9.out; have h10 := HO10.out; rw [e, h10] at h9; simp at h9
              have c90 := cell_obj (i := 0) HO9.out (v := .string ⟨#[]⟩) rfl
              have c91 := cell_obj (i := 1) HO9.out (v := .int .i64 0) rfl
              have c92 := cell_obj (i := 2) HO9.out (v := .int .i64 0) rfl
              have f90 := free_obj (i := 0) HO9.out
              have f91 := free_obj (i := 1) HO9.out
              have f92 := free_obj (i := 2) HO9.out
              refine wpAnyH_ready (rs := [11]) (by kernel_rfl) (by simp) (AllReadyH.cons rfl (fun K hK => ?_) AllReadyH.nil)
              go_simp
              clear c90 c91 c92 f90 f91 f92
              obtain ⟨wA, hwA, hLA, hA9, hA10⟩ := put_place HO9.out HO10.out hne (by have := HZ9.out; exact this) f t (strB (encVals key))
              rw [← hwA]
              have HKA := hid (owns_keep HK4.out (hLA.2) (fun g hg e => own_ne HK4.out HO9.out (by decide) (by rw [hg, e])))
              have HDA := hid (owns_keep HD7.out (hLA.2) (fun g hg e => own_ne HD7.out HO9.out (by decide) (by rw [hg, e])))
              refine hK.out _ _ (hLA.1 w2 rfl hS) (fun hS => ?_)
              clear hK K hwA
              try simp only [Act.put, List.setIfInBounds_toArray, List.set]
              have c100 := cell_obj (i := 0) hA10 (v := .slice none 0 0) rfl
              have c101 := cell_obj (i := 1) hA10 (v := .int .i64 0) rfl
              have c102 := cell_obj (i := 2) hA10 (v := .int .i64 0) rfl
              have c103 := cell_obj (i := 3) hA10 (v := .slice none 0 0) rfl
              have f100 := free_obj (i := 0) hA10
              have f101 := free_obj (i := 1) hA10
              have f102 := free_obj (i := 2) hA10
              have f103 := free_obj (i := 3) hA10
              refine wpAnyH_ready (rs := [12]) (by kernel_rfl) (by simp) (AllReadyH.cons rfl (fun K hK => ?_) AllReadyH.nil)
              go_simp
              clear c100 c101 c102 c103 f100 f101 f102 f103
              obtain ⟨wB, hwB, hLB, hB10, hB9⟩ := put_cell hA10 hA9 (Ne.symm hne) HZ10.out f t (.slice a4 key.length k4) (.slice b7 data.length m7)
              rw [← hwB]
              refine hK.out _ _ (hLB.1 w2 rfl hS) (fun hS => ?_)
              clear hK K hwB
              try simp only [Act.put, List.setIfInBounds_toArray, List.set]
              refine wpAnyH_done (by kernel_rfl) ?_ _
              refine Meet.mk' HR1.out rfl ?_
              exact ⟨P9, P10, a4, k4, b7, m7, rfl, rfl, hS, hB9, hB10, HZ9.out, HZ10.out, owns_keep HKA.out hLB.2 (fun g hg e => own_ne HKA.out hA10 (by decide) (by rw [hg, e])), owns_keep HDA.out hLB.2 (fun g hg e => own_ne HDA.out hA10 (by decide) (by rw [hg, e]))⟩
        · go_simp
          have HO10 := hid (obj_new w102 (.cells #[.slice none 0 0, .int .i64 0, .int .i64 0, .slice none 0 0] 57 (0, 0)))
          have HZ10 := hid hS.size
          have hL113 := Later.alloc w102 (.cells #[.slice none 0 0, .int .i64 0, .int .i64 0, .slice none 0 0] 57 (0, 0))
          obtain ⟨P10, hP10⟩ : ∃ P, P = w102.heap.size := ⟨_, rfl⟩
          obtain ⟨w113, hw113⟩ : ∃ W, W = w102.alloc (.cells #[.slice none 0 0, .int .i64 0, .int .i64 0, .slice none 0 0] 57 (0, 0)) := ⟨_, rfl⟩
          rw [← hP10, ← hw113] at HO10
          rw [← hP10] at HZ10
          rw [← hw113] at hL113
          rw [← hP10, ← hw113]
          clear hP10 hw113
          replace HK4 := hid (owns_at HK4.out hL113)
          refine hK.out _ _ (Later.trans _ _ _ hS hL113) (fun hS => ?_)
          clear hK K
          try simp only [Act.put, List.setIfInBounds_toArray, List.set]
          clear hL113
          refine wpAnyH_ready (rs := [7, 9]) (by kernel_rfl) (by simp) (AllReadyH.cons rfl (fun K hK => ?_) (AllReadyH.cons rfl (fun K hK => ?_) AllReadyH.nil))
          · go_simp
            refine (clone_bytes data _ _ (SliceOf.bytes_later HKV.out.2 hS) HDL.out).mono ?_
            rintro e w114 ⟨v7, rfl, hc7, hL114⟩
            obtain ⟨b7, m7, e7⟩ := ownsRow_slice hc7
            subst e7
            have HD7 := hid (ownsRow_base hc7 hS.size)
            clear hc7
            replace HK4 := hid (owns_at HK4.out hL114)
            replace HO10 := hid (hL114.obj HO10.out)
            refine hK.out _ _ (Later.trans _ _ _ hS hL114) (fun hS => ?_)
            clear hK K
            try simp only [Act.put, List.setIfInBounds_toArray, List.set]
            clear hL114
            refine wpAnyH_take (i := 8) (v := .agg #[.slice a4 key.length k4, .int .i64 f, .int .i64 t, .slice b7 data.length m7]) rfl (by kernel_rfl) (by kernel_rfl) (by kernel_rfl) (fun _ _ _ h => h) (Or.inl ⟨by rfl, ?_⟩) hS ?_
            · intro w _; go_simp
            try simp only [Act.put, List.setIfInBounds_toArray, List.set]
            refine wpAnyH_ready (rs := [9]) (by kernel_rfl) (by simp) (AllReadyH.cons rfl (fun K hK => ?_) AllReadyH.nil)
            · go_simp
              have HO9 := hid (obj_new w114 (.cells #[.string ⟨#[]⟩, .int .i64 0, .int .i64 0] 65 (0, 0)))
              have HZ9 := hid hS.size
              have hL115 := Later.alloc w114 (.cells #[.string ⟨#[]⟩, .int .i64 0, .int .i64 0] 65 (0, 0))
              obtain ⟨P9, hP9⟩ : ∃ P, P = w114.heap.size := ⟨_, rfl⟩
              obtain ⟨w115, hw115⟩ : ∃ W, W = w114.alloc (.cells #[.string ⟨#[]⟩, .int .i64 0, .int .i64 0] 65 (0, 0)) := ⟨_, rfl⟩
              rw [← hP9, ← hw115] at HO9
              rw [← hP9] at HZ9
              rw [← hw115] at hL115
              rw [← hP9, ← hw115]
              clear hP9 hw115
              replace HK4 := hid (owns_at HK4.out hL115)
              replace HO10 := hid (hL115.obj HO10.out)
              replace HD7 := hid (owns_at HD7.out hL115)
              refine hK.out _ _ (Later.trans _ _ _ hS hL115) (fun hS => ?_)
              clear hK K
              try simp only [Act.put, List.setIfInBounds_toArray, List.set]
              clear hL115
              have hne : P9 ≠ P10 := fun e => by have h9 := HO9.out; have h10 := HO10.out; rw [e, h10] at h9; simp at h9
              have c90 := cell_obj (i := 0) HO9.out (v := .string ⟨#[]⟩) rfl
              have c91 := cell_obj (i := 1) HO9.out (v := .int .i64 0) rfl
              have c92 := cell_obj (i := 2) HO9.out (v := .int .i64 0) rfl
              have f90 := free_obj (i := 0) HO9.out
              have f91 := free_obj (i := 1) HO9.out
              have f92 := free_obj (i := 2) HO9.out
              refine wpAnyH_ready (rs := [11]) (by kernel_rfl) (by simp) (AllReadyH.cons rfl (fun K hK => ?_) AllReadyH.nil)
              go_simp
              clear c90 c91 c92 f90 f91 f92
              obtain ⟨wA, hwA, hLA, hA9, hA10⟩ := put_place HO9.out HO10.out hne (by have := HZ9.out; exact this) f t (strB (encVals key))
              rw [← hwA]
              have HKA := hid (owns_keep HK4.out (hLA.2) (fun g hg e => own_ne HK4.out HO9.out (by decide) (by rw [hg, e])))
              have HDA := hid (owns_keep HD7.out (hLA.2) (fun g hg e => own_ne HD7.out HO9.out (by decide) (by rw [hg, e])))
              refine hK.out _ _ (hLA.1 w2 rfl hS) (fun hS => ?_)
              clear hK K hwA
              try simp only [Act.put, List.setIfInBounds_toArray, List.set]
              have c100 := cell_obj (i := 0) hA10 (v := .slice none 0 0) rfl
              have c101 := cell_obj (i := 1) hA10 (v := .int .i64 0) rfl
              have c102 := cell_obj (i := 2) hA10 (v := .int .i64 0) rfl
              have c103 := cell_obj (i := 3) hA10 (v := .slice none 0 0) rfl
              have f100 := free_obj (i := 0) hA10
              have f101 := free_obj (i := 1) hA10
              have f102 := free_obj (i := 2) hA10
              have f103 := free_obj (i := 3) hA10
              refine wpAnyH_ready (rs := [12]) (by kernel_rfl) (by simp) (AllReadyH.cons rfl (fun K hK => ?_) AllReadyH.nil)
              go_simp
              clear c100 c101 c102 c103 f100 f101 f102 f103
              obtain ⟨wB, hwB, hLB, hB10, hB9⟩ := put_cell hA10 hA9 (Ne.symm hne) HZ10.out f t (.slice a4 key.length k4) (.slice b7 data.length m7)
              rw [← hwB]
              refine hK.out _ _ (hLB.1 w2 rfl hS) (fun hS => ?_)
              clear hK K hwB
              try simp only [Act.put, List.setIfInBounds_toArray, List.set]
              refine wpAnyH_done (by kernel_rfl) ?_ _
              refine Meet.mk' HR1.out rfl ?_
              exact ⟨P9, P10, a4, k4, b7, m7, rfl, rfl, hS, hB9, hB10, HZ9.out, HZ10.out, owns_keep HKA.out hLB.2 (fun g hg e => own_ne HKA.out hA10 (by decide) (by rw [hg, e])), owns_keep HDA.out hLB.2 (fun g hg e => own_ne HDA.out hA10 (by decide) (by rw [hg, e]))⟩
          · go_simp
            have HO9 := hid (obj_new w113 (.cells #[.string ⟨#[]⟩, .int .i64 0, .int .i64 0] 65 (0, 0)))
            have HZ9 := hid hS.size
            have hL116 := Later.alloc w113 (.cells #[.string ⟨#[]⟩, .int .i64 0, .int .i64 0] 65 (0, 0))
            obtain ⟨P9, hP9⟩ : ∃ P, P = w113.heap.size := ⟨_, rfl⟩
            obtain ⟨w116, hw116⟩ : ∃ W, W = w113.alloc (.cells #[.string ⟨#[]⟩, .int .i64 0, .int .i64 0] 65 (0, 0)) := ⟨_, rfl⟩
            rw [← hP9, ← hw116] at HO9
            rw [← hP9] at HZ9
            rw [← hw116] at hL116
            rw [← hP9, ← hw116]
            clear hP9 hw116
            replace HK4 := hid (owns_at HK4.out hL116)
            replace HO10 := hid (hL116.obj HO10.out)
            refine hK.out _ _ (Later.trans _ _ _ hS hL116) (fun hS => ?_)
            clear hK K
            try simp only [Act.put, List.setIfInBounds_toArray, List.set]
            clear hL116
            refine wpAnyH_ready (rs := [7]) (by kernel_rfl) (by simp) (AllReadyH.cons rfl (fun K hK => ?_) AllReadyH.nil)
            · go_simp
              refine (clone_bytes data _ _ (SliceOf.bytes_later HKV.out.2 hS) HDL.out).mono ?_
              rintro e w117 ⟨v7, rfl, hc7, hL117⟩
              obtain ⟨b7, m7, e7⟩ := ownsRow_slice hc7
              subst e7
              have HD7 := hid (ownsRow_base hc7 hS.size)
              clear hc7
              replace HK4 := hid (owns_at HK4.out hL117)
              replace HO10 := hid (hL117.obj HO10.out)
              replace HO9 := hid (hL117.obj HO9.out)
              refine hK.out _ _ (Later.trans _ _ _ hS hL117) (fun hS => ?_)
              clear hK K
              try simp only [Act.put, List.setIfInBounds_toArray, List.set]
              clear hL117
              refine wpAnyH_take (i := 8) (v := .agg #[.slice a4 key.length k4, .int .i64 f, .int .i64 t, .slice b7 data.length m7]) rfl (by kernel_rfl) (by kernel_rfl) (by kernel_rfl) (fun _ _ _ h => h) (Or.inl ⟨by rfl, ?_⟩) hS ?_
              · intro w _; go_simp
              try simp only [Act.put, List.setIfInBounds_toArray, List.set]
              have hne : P9 ≠ P10 := fun e => by have h9 := HO9.out; have h10 := HO10.out; rw [e, h10] at h9; simp at h9
              have c90 := cell_obj (i := 0) HO9.out (v := .string ⟨#[]⟩) rfl
              have c91 := cell_obj (i := 1) HO9.out (v := .int .i64 0) rfl
              have c92 := cell_obj (i := 2) HO9.out (v := .int .i64 0) rfl
              have f90 := free_obj (i := 0) HO9.out
              have f91 := free_obj (i := 1) HO9.out
              have f92 := free_obj (i := 2) HO9.out
              refine wpAnyH_ready (rs := [11]) (by kernel_rfl) (by simp) (AllReadyH.cons rfl (fun K hK => ?_) AllReadyH.nil)
              go_simp
              clear c90 c91 c92 f90 f91 f92
              obtain ⟨wA, hwA, hLA, hA9, hA10⟩ := put_place HO9.out HO10.out hne (by have := HZ9.out; exact this) f t (strB (encVals key))
              rw [← hwA]
              have HKA := hid (owns_keep HK4.out (hLA.2) (fun g hg e => own_ne HK4.out HO9.out (by decide) (by rw [hg, e])))
              have HDA := hid (owns_keep HD7.out (hLA.2) (fun g hg e => own_ne HD7.out HO9.out (by decide) (by rw [hg, e])))
              refine hK.out _ _ (hLA.1 w2 rfl hS) (fun hS => ?_)
              clear hK K hwA
              try simp only [Act.put, List.setIfInBounds_toArray, List.set]
              have c100 := cell_obj (i := 0) hA10 (v := .slice none 0 0) rfl
              have c101 := cell_obj (i := 1) hA10 (v := .int .i64 0) rfl
              have c102 := cell_obj (i := 2) hA10 (v := .int .i64 0) rfl
              have c103 := cell_obj (i := 3) hA10 (v := .slice none 0 0) rfl
              have f100 := free_obj (i := 0) hA10
              have f101 := free_obj (i := 1) hA10
              have f102 := free_obj (i := 2) hA10
              have f103 := free_obj (i := 3) hA10
              refine wpAnyH_ready (rs := [12]) (by kernel_rfl) (by simp) (AllReadyH.cons rfl (fun K hK => ?_) AllReadyH.nil)
              go_simp
              clear c100 c101 c102 c103 f100 f101 f102 f103
              obtain ⟨wB, hwB, hLB, hB10, hB9⟩ := put_cell hA10 hA9 (Ne.symm hne) HZ10.out f t (.slice a4 key.length k4) (.slice b7 data.length m7)
              rw [← hwB]
              refine hK.out _ _ (hLB.1 w2 rfl hS) (fun hS => ?_)
              clear hK K hwB
              try simp only [Act.put, List.setIfInBounds_toArray, List.set]
              refine wpAnyH_done (by kernel_rfl) ?_ _
              refine Meet.mk' HR1.out rfl ?_
              exact ⟨P9, P10, a4, k4, b7, m7, rfl, rfl, hS, hB9, hB10, HZ9.out, HZ10.out, owns_keep HKA.out hLB.2 (fun g hg e => own_ne HKA.out hA10 (by decide) (by rw [hg, e])), owns_keep HDA.out hLB.2 (fun g hg e => own_ne HDA.out hA10 (by decide) (by rw [hg, e]))⟩
      · go_simp
        have HO9 := hid (obj_new w101 (.cells #[.string ⟨#[]⟩, .int .i64 0, .int .i64 0] 65 (0, 0)))
        have HZ9 := hid hS.size
        have hL118 := Later.alloc w101 (.cells #[.string ⟨#[]⟩, .int .i64 0, .int .i64 0] 65 (0, 0))
        obtain ⟨P9, hP9⟩ : ∃ P, P = w101.heap.size := ⟨_, rfl⟩
        obtain ⟨w118, hw118⟩ : ∃ W, W = w101.alloc (.cells #[.string ⟨#[]⟩, .int .i64 0, .int .i64 0] 65 (0, 0)) := ⟨_, rfl⟩
        rw [← hP9, ← hw118] at HO9
        rw [← hP9] at HZ9
        rw [← hw118] at hL118
        rw [← hP9, ← hw118]
        clear hP9 hw118
        refine hK.out _ _ (Later.trans _ _ _ hS hL118) (fun hS => ?_)
        clear hK K
        try simp only [Act.put, List.setIfInBounds_toArray, List.set]
        clear hL118
        refine wpAnyH_ready (rs := [4, 10]) (by kernel_rfl) (by simp) (AllReadyH.cons rfl (fun K hK => ?_) (AllReadyH.cons rfl (fun K hK => ?_) AllReadyH.nil))
        · go_simp
          refine (clone_vals key _ _ (HKV.out.1.later hS) (by have := HK8.out; omega)).mono ?_
          rintro e w119 ⟨v4, rfl, hc4, hL119⟩
          obtain ⟨a4, k4, e4⟩ := ownsRow_slice hc4.1
          subst e4
          have HK4 := hid (ownsRow_base hc4.1 hS.size)
          clear hc4
          replace HO9 := hid (hL119.obj HO9.out)
          refine hK.out _ _ (Later.trans _ _ _ hS hL119) (fun hS => ?_)
          clear hK K
          try simp only [Act.put, List.setIfInBounds_toArray, List.set]
          clear hL119
          refine wpAnyH_ready (rs := [7, 10]) (by kernel_rfl) (by simp) (AllReadyH.cons rfl (fun K hK => ?_) (AllReadyH.cons rfl (fun K hK => ?_) AllReadyH.nil))
          · go_simp
            refine (clone_bytes data _ _ (SliceOf.bytes_later HKV.out.2 hS) HDL.out).mono ?_
            rintro e w120 ⟨v7, rfl, hc7, hL120⟩
            obtain ⟨b7, m7, e7⟩ := ownsRow_slice hc7
            subst e7
            have HD7 := hid (ownsRow_base hc7 hS.size)
            clear hc7
            replace HO9 := hid (hL120.obj HO9.out)
            replace HK4 := hid (owns_at HK4.out hL120)
            refine hK.out _ _ (Later.trans _ _ _ hS hL120) (fun hS => ?_)
            clear hK K
            try simp only [Act.put, List.setIfInBounds_toArray, List.set]
            clear hL120
            refine wpAnyH_take (i := 8) (v := .agg #[.slice a4 key.length k4, .int .i64 f, .int .i64 t, .slice b7 data.length m7]) rfl (by kernel_rfl) (by kernel_rfl) (by kernel_rfl) (fun _ _ _ h => h) (Or.inl ⟨by rfl, ?_⟩) hS ?_
            · intro w _; go_simp
            try simp only [Act.put, List.setIfInBounds_toArray, List.set]
            refine wpAnyH_ready (rs := [10]) (by kernel_rfl) (by simp) (AllReadyH.cons rfl (fun K hK => ?_) AllReadyH.nil)
            · go_simp
              have HO10 := hid (obj_new w120 (.cells #[.slice none 0 0, .int .i64 0, .int .i64 0, .slice none 0 0] 57 (0, 0)))
              have HZ10 := hid hS.size
              have hL121 := Later.alloc w120 (.cells #[.slice none 0 0, .int .i64 0, .int .i64 0, .slice none 0 0] 57 (0, 0))
              obtain ⟨P10, hP10⟩ : ∃ P, P = w120.heap.size := ⟨_, rfl⟩
              obtain ⟨w121, hw121⟩ : ∃ W, W = w120.alloc (.cells #[.slice none 0 0, .int .i64 0, .int .i64 0, .slice none 0 0] 57 (0, 0)) := ⟨_, rfl⟩
              rw [← hP10, ← hw121] at HO10
              rw [← hP10] at HZ10
              rw [← hw121] at hL121
              rw [← hP10, ← hw121]
              clear hP10 hw121
              replace HO9 := hid (hL121.obj HO9.out)
              replace HK4 := hid (owns_at HK4.out hL121)
              replace HD7 := hid (owns_at HD7.out hL121)
              refine hK.out _ _ (Later.trans _ _ _ hS hL121) (fun hS => ?_)
              clear hK K
              try simp only [Act.put, List.setIfInBounds_toArray, List.set]
              clear hL121
              have hne : P9 ≠ P10 := fun e => by have h9 := HO9.out; have h10 := HO10.out; rw [e, h10] at h9; simp at h9
              have c90 := cell_obj (i := 0) HO9.out (v := .string ⟨#[]⟩) rfl
              have c91 := cell_obj (i := 1) HO9.out (v := .int .i64 0) rfl
              have c92 := cell_obj (i := 2) HO9.out (v := .int .i64 0) rfl
              have f90 := free_obj (i := 0) HO9.out
              have f91 := free_obj (i := 1) HO9.out
              have f92 := free_obj (i := 2) HO9.out
              refine wpAnyH_ready (rs := [11]) (by kernel_rfl) (by simp) (AllReadyH.cons rfl (fun K hK => ?_) AllReadyH.nil)
              go_simp
              clear c90 c91 c92 f90 f91 f92
              obtain ⟨wA, hwA, hLA, hA9, hA10⟩ := put_place HO9.out HO10.out hne (by have := HZ9.out; exact this) f t (strB (encVals key))
              rw [← hwA]
              have HKA := hid (owns_keep HK4.out (hLA.2) (fun g hg e => own_ne HK4.out HO9.out (by decide) (by rw [hg, e])))
              have HDA := hid (owns_keep HD7.out (hLA.2) (fun g hg e => own_ne HD7.out HO9.out (by decide) (by rw [hg, e])))
              refine hK.out _ _ (hLA.1 w2 rfl hS) (fun hS => ?_)
              clear hK K hwA
              try simp only [Act.put, List.setIfInBounds_toArray, List.set]
              have c100 := cell_obj (i := 0) hA10 (v := .slice none 0 0) rfl
              have c101 := cell_obj (i := 1) hA10 (v := .int .i64 0) rfl
              have c102 := cell_obj (i := 2) hA10 (v := .int .i64 0) rfl
              have c103 := cell_obj (i := 3) hA10 (v := .slice none 0 0) rfl
              have f100 := free_obj (i := 0) hA10
              have f101 := free_obj (i := 1) hA10
              have f102 := free_obj (i := 2) hA10
              have f103 := free_obj (i := 3) hA10
              refine wpAnyH_ready (rs := [12]) (by kernel_rfl) (by simp) (AllReadyH.cons rfl (fun K hK => ?_) AllReadyH.nil)
              go_simp
              clear c100 c101 c102 c103 f100 f101 f102 f103
              obtain ⟨wB, hwB, hLB, hB10, hB9⟩ := put_cell hA10 hA9 (Ne.symm hne) HZ10.out f t (.slice a4 key.length k4) (.slice b7 data.length m7)
              rw [← hwB]
              refine hK.out _ _ (hLB.1 w2 rfl hS) (fun hS => ?_)
              clear hK K hwB
              try simp only [Act.put, List.setIfInBounds_toArray, List.set]
              refine wpAnyH_done (by kernel_rfl) ?_ _
              refine Meet.mk' HR1.out rfl ?_
              exact ⟨P9, P10, a4, k4, b7, m7, rfl, rfl, hS, hB9, hB10, HZ9.out, HZ10.out, owns_keep HKA.out hLB.2 (fun g hg e => own_ne HKA.out hA10 (by decide) (by rw [hg, e])), owns_keep HDA.out hLB.2 (fun g hg e => own_ne HDA.out hA10 (by decide) (by rw [hg, e]))⟩
          · go_simp
            have HO10 := hid (obj_new w119 (.cells #[.slice none 0 0, .int .i64 0, .int .i64 0, .slice none 0 0] 57 (0, 0)))
            have HZ10 := hid hS.size
            have hL122 := Later.alloc w119 (.cells #[.slice none 0 0, .int .i64 0, .int .i64 0, .slice none 0 0] 57 (0, 0))
            obtain ⟨P10, hP10⟩ : ∃ P, P = w119.heap.size := ⟨_, rfl⟩
            obtain ⟨w122, hw122⟩ : ∃ W, W = w119.alloc (.cells #[.slice none 0 0, .int .i64 0, .int .i64 0, .slice none 0 0] 57 (0, 0)) := ⟨_, rfl⟩
            rw [← hP10, ← hw122] at HO10
            rw [← hP10] at HZ10
            rw [← hw122] at hL122
            rw [← hP10, ← hw122]
            clear hP10 hw122
            replace HO9 := hid (hL122.obj HO9.out)
            replace HK4 := hid (owns_at HK4.out hL122)
            refine hK.out _ _ (Later.trans _ _ _ hS hL122) (fun hS => ?_)
            clear hK K
            try simp only [Act.put, List.setIfInBounds_toArray, List.set]
            clear hL122
            refine wpAnyH_ready (rs := [7]) (by kernel_rfl) (by simp) (AllReadyH.cons rfl (fun K hK => ?_) AllReadyH.nil)
            · go_simp
              refine (clone_bytes data _ _ (SliceOf.bytes_later HKV.out.2 hS) HDL.out).mono ?_
              rintro e w123 ⟨v7, rfl, hc7, hL123⟩
              obtain ⟨b7, m7, e7⟩ := ownsRow_slice hc7
              subst e7
              have HD7 := hid (ownsRow_base hc7 hS.size)
              clear hc7
              replace HO9 := hid (hL123.obj HO9.out)
              replace HK4 := hid (owns_at HK4.out hL123)
              replace HO10 := hid (hL123.obj HO10.out)
              refine hK.out _ _ (Later.trans _ _ _ hS hL123) (fun hS => ?_)
              clear hK K
              try simp only [Act.put, List.setIfInBounds_toArray, List.set]
              clear hL123
              refine wpAnyH_take (i := 8) (v := .agg #[.slice a4 key.length k4, .int .i64 f, .int .i64 t, .slice b7 data.length m7]) rfl (by kernel_rfl) (by kernel_rfl) (by kernel_rfl) (fun _ _ _ h => h) (Or.inl ⟨by rfl, ?_⟩) hS ?_
              · intro w _; go_simp
              try simp only [Act.put, List.setIfInBounds_toArray, List.set]
              have hne : P9 ≠ P10 := fun e => by have h9 := HO9.out; have h10 := HO10.out; rw [e, h10] at h9; simp at h9
              have c90 := cell_obj (i := 0) HO9.out (v := .string ⟨#[]⟩) rfl
              have c91 := cell_obj (i := 1) HO9.out (v := .int .i64 0) rfl
              have c92 := cell_obj (i := 2) HO9.out (v := .int .i64 0) rfl
              have f90 := free_obj (i := 0) HO9.out
              have f91 := free_obj (i := 1) HO9.out
              have f92 := free_obj (i := 2) HO9.out
              refine wpAnyH_ready (rs := [11]) (by kernel_rfl) (by simp) (AllReadyH.cons rfl (fun K hK => ?_) AllReadyH.nil)
              go_simp
              clear c90 c91 c92 f90 f91 f92
              obtain ⟨wA, hwA, hLA, hA9, hA10⟩ := put_place HO9.out HO10.out hne (by have := HZ9.out; exact this) f t (strB (encVals key))
              rw [← hwA]
              have HKA := hid (owns_keep HK4.out (hLA.2) (fun g hg e => own_ne HK4.out HO9.out (by decide) (by rw [hg, e])))
              have HDA := hid (owns_keep HD7.out (hLA.2) (fun g hg e => own_ne HD7.out HO9.out (by decide) (by rw [hg, e])))
              refine hK.out _ _ (hLA.1 w2 rfl hS) (fun hS => ?_)
              clear hK K hwA
              try simp only [Act.put, List.setIfInBounds_toArray, List.set]
              have c100 := cell_obj (i := 0) hA10 (v := .slice none 0 0) rfl
              have c101 := cell_obj (i := 1) hA10 (v := .int .i64 0) rfl
              have c102 := cell_obj (i := 2) hA10 (v := .int .i64 0) rfl
              have c103 := cell_obj (i := 3) hA10 (v := .slice none 0 0) rfl
              have f100 := free_obj (i := 0) hA10
              have f101 := free_obj (i := 1) hA10
              have f102 := free_obj (i := 2) hA10
              have f103 := free_obj (i := 3) hA10
              refine wpAnyH_ready (rs := [12]) (by kernel_rfl) (by simp) (AllReadyH.cons rfl (fun K hK => ?_) AllReadyH.nil)
              go_simp
              clear c100 c101 c102 c103 f100 f101 f102 f103
              obtain ⟨wB, hwB, hLB, hB10, hB9⟩ := put_cell hA10 hA9 (Ne.symm hne) HZ10.out f t (.slice a4 key.length k4) (.slice b7 data.length m7)
              rw [← hwB]
              refine hK.out _ _ (hLB.1 w2 rfl hS) (fun hS => ?_)
              clear hK K hwB
              try simp only [Act.put, List.setIfInBounds_toArray, List.set]
              refine wpAnyH_done (by kernel_rfl) ?_ _
              refine Meet.mk' HR1.out rfl ?_
              exact ⟨P9, P10, a4, k4, b7, m7, rfl, rfl, hS, hB9, hB10, HZ9.out, HZ10.out, owns_keep HKA.out hLB.2 (fun g hg e => own_ne HKA.out hA10 (by decide) (by rw [hg, e])), owns_keep HDA.out hLB.2 (fun g hg e => own_ne HDA.out hA10 (by decide) (by rw [hg, e]))⟩
        · go_simp
          have HO10 := hid (obj_new w118 (.cells #[.slice none 0 0, .int .i64 0, .int .i64 0, .slice none 0 0] 57 (0, 0)))
          have HZ10 := hid hS.size
          have hL124 := Later.alloc w118 (.cells #[.slice none 0 0, .int .i64 0, .int .i64 0, .slice none 0 0] 57 (0, 0))
          obtain ⟨P10, hP10⟩ : ∃ P, P = w118.heap.size := ⟨_, rfl⟩
          obtain ⟨w124, hw124⟩ : ∃ W, W = w118.alloc (.cells #[.slice none 0 0, .int .i64 0, .int .i64 0, .slice none 0 0] 57 (0, 0)) := ⟨_, rfl⟩
          rw [← hP10, ← hw124] at HO10
          rw [← hP10] at HZ10
          rw [← hw124] at hL124
          rw [← hP10, ← hw124]
          clear hP10 hw124
          replace HO9 := hid (hL124.obj HO9.out)
          refine hK.out _ _ (Later.trans _ _ _ hS hL124) (fun hS => ?_)
          clear hK K
          try simp only [Act.put, List.setIfInBounds_toArray, List.set]
          clear hL124
          refine wpAnyH_ready (rs := [4]) (by kernel_rfl) (by simp) (AllReadyH.cons rfl (fun K hK => ?_) AllReadyH.nil)
          · go_simp
            refine (clone_vals key _ _ (HKV.out.1.later hS) (by have := HK8.out; omega)).mono ?_
            rintro e w125 ⟨v4, rfl, hc4, hL125⟩
            obtain ⟨a4, k4, e4⟩ := ownsRow_slice hc4.1
            subst e4
            have HK4 := hid (ownsRow_base hc4.1 hS.size)
            clear hc4
            replace HO9 := hid (hL125.obj HO9.out)
            replace HO10 := hid (hL125.obj HO10.out)
            refine hK.out _ _ (Later.trans _ _ _ hS hL125) (fun hS => ?_)
            clear hK K
            try simp only [Act.put, List.setIfInBounds_toArray, List.set]
            clear hL125
            refine wpAnyH_ready (rs := [7]) (by kernel_rfl) (by simp) (AllReadyH.cons rfl (fun K hK => ?_) AllReadyH.nil)
            · go_simp
              refine (clone_bytes data _ _ (SliceOf.bytes_later HKV.out.2 hS) HDL.out).mono ?_
              rintro e w126 ⟨v7, rfl, hc7, hL126⟩
              obtain ⟨b7, m7, e7⟩ := ownsRow_slice hc7
              subst e7
              have HD7 := hid (ownsRow_base hc7 hS.size)
              clear hc7
              replace HO9 := hid (hL126.obj HO9.out)
              replace HO10 := hid (hL126.obj HO10.out)
              replace HK4 := hid (owns_at HK4.out hL126)
              refine hK.out _ _ (Later.trans _ _ _ hS hL126) (fun hS => ?_)
              clear hK K
              try simp only [Act.put, List.setIfInBounds_toArray, List.set]
              clear hL126
              refine wpAnyH_take (i := 8) (v := .agg #[.slice a4 key.length k4, .int .i64 f, .int .i64 t, .slice b7 data.length m7]) rfl (by kernel_rfl) (by kernel_rfl) (by kernel_rfl) (fun _ _ _ h => h) (Or.inl ⟨by rfl, ?_⟩) hS ?_
              · intro w _; go_simp
              try simp only [Act.put, List.setIfInBounds_toArray, List.set]
              have hne : P9 ≠ P10 := fun e => by have h9 := HO9.out; have h10 := HO10.out; rw [e, h10] at h9; simp at h9
              have c90 := cell_obj (i := 0) HO9.out (v := .string ⟨#[]⟩) rfl
              have c91 := cell_obj (i := 1) HO9.out (v := .int .i64 0) rfl
              have c92 := cell_obj (i := 2) HO9.out (v := .int .i64 0) rfl
              have f90 := free_obj (i := 0) HO9.out
              have f91 := free_obj (i := 1) HO9.out
              have f92 := free_obj (i := 2) HO9.out
              refine wpAnyH_ready (rs := [11]) (by kernel_rfl) (by simp) (AllReadyH.cons rfl (fun K hK => ?_) AllReadyH.nil)
              go_simp
              clear c90 c91 c92 f90 f91 f92
              obtain ⟨wA, hwA, hLA, hA9, hA10⟩ := put_place HO9.out HO10.out hne (by have := HZ9.out; exact this) f t (strB (encVals key))
              rw [← hwA]
              have HKA := hid (owns_keep HK4.out (hLA.2) (fun g hg e => own_ne HK4.out HO9.out (by decide) (by rw [hg, e])))
              have HDA := hid (owns_keep HD7.out (hLA.2) (fun g hg e => own_ne HD7.out HO9.out (by decide) (by rw [hg, e])))
              refine hK.out _ _ (hLA.1 w2 rfl hS) (fun hS => ?_)
              clear hK K hwA
              try simp only [Act.put, List.setIfInBounds_toArray, List.set]
              have c100 := cell_obj (i := 0) hA10 (v := .slice none 0 0) rfl
              have c101 := cell_obj (i := 1) hA10 (v := .int .i64 0) rfl
              have c102 := cell_obj (i := 2) hA10 (v := .int .i64 0) rfl
              have c103 := cell_obj (i := 3) hA10 (v := .slice none 0 0) rfl
              have f100 := free_obj (i := 0) hA10
              have f101 := free_obj (i := 1) hA10
              have f102 := free_obj (i := 2) hA10
              have f103 := free_obj (i := 3) hA10
              refine wpAnyH_ready (rs := [12]) (by kernel_rfl) (by simp) (AllReadyH.cons rfl (fun K hK => ?_) AllReadyH.nil)
              go_simp
              clear c100 c101 c102 c103 f100 f101 f102 f103
              obtain ⟨wB, hwB, hLB, hB10, hB9⟩ := put_cell hA10 hA9 (Ne.symm hne) HZ10.out f t (.slice a4 key.length k4) (.slice b7 data.length m7)
              rw [← hwB]
              refine hK.out _ _ (hLB.1 w2 rfl hS) (fun hS => ?_)
              clear hK K hwB
              try simp only [Act.put, List.setIfInBounds_toArray, List.set]
              refine wpAnyH_done (by kernel_rfl) ?_ _
              refine Meet.mk' HR1.out rfl ?_
              exact ⟨P9, P10, a4, k4, b7, m7, rfl, rfl, hS, hB9, hB10, HZ9.out, HZ10.out, owns_keep HKA.out hLB.2 (fun g hg e => own_ne HKA.out hA10 (by decide) (by rw [hg, e])), owns_keep HDA.out hLB.2 (fun g hg e => own_ne HDA.out hA10 (by decide) (by rw [hg, e]))⟩
      · go_simp
        have HO10 := hid (obj_new w101 (.cells #[.slice none 0 0, .int .i64 0, .int .i64 0, .slice none 0 0] 57 (0, 0)))
        have HZ10 := hid hS.size
        have hL127 := Later.alloc w101 (.cells #[.slice none 0 0, .int .i64 0, .int .i64 0, .slice none 0 0] 57 (0, 0))
        obtain ⟨P10, hP10⟩ : ∃ P, P = w101.heap.size := ⟨_, rfl⟩
        obtain ⟨w127, hw127⟩ : ∃ W, W = w101.alloc (.cells #[.slice none 0 0, .int .i64 0, .int .i64 0, .slice none 0 0] 57 (0, 0)) := ⟨_, rfl⟩
        rw [← hP10, ← hw127] at HO10
        rw [← hP10] at HZ10
        rw [← hw127] at hL127
        rw [← hP10, ← hw127]
        clear hP10 hw127
        refine hK.out _ _ (Later.trans _ _ _ hS hL127) (fun hS => ?_)
        clear hK K
        try simp only [Act.put, List.setIfInBounds_toArray, List.set]
        clear hL127
        refine wpAnyH_ready (rs := [4, 9]) (by kernel_rfl) (by simp) (AllReadyH.cons rfl (fun K hK => ?_) (AllReadyH.cons rfl (fun K hK => ?_) AllReadyH.nil))
        · go_simp
          refine (clone_vals key _ _ (HKV.out.1.later hS) (by have := HK8.out; omega)).mono ?_
          rintro e w128 ⟨v4, rfl, hc4, hL128⟩
          obtain ⟨a4, k4, e4⟩ := ownsRow_slice hc4.1
          subst e4
          have HK4 := hid (ownsRow_base hc4.1 hS.size)
          clear hc4
          replace HO10 := hid (hL128.obj HO10.out)
          refine hK.out _ _ (Later.trans _ _ _ hS hL128) (fun hS => ?_)
          clear hK K
          try simp only [Act.put, List.setIfInBounds_toArray, List.set]
          clear hL128
          refine wpAnyH_ready (rs := [7, 9]) (by kernel_rfl) (by simp) (AllReadyH.cons rfl (fun K hK => ?_) (AllReadyH.cons rfl (fun K hK => ?_) AllReadyH.nil))
          · go_simp
            refine (clone_bytes data _ _ (SliceOf.bytes_later HKV.out.2 hS) HDL.out).mono ?_
            rintro e w129 ⟨v7, rfl, hc7, hL129⟩
            obtain ⟨b7, m7, e7⟩ := ownsRow_slice hc7
            subst e7
            have HD7 := hid (ownsRow_base hc7 hS.size)
            clear hc7
            replace HO10 := hid (hL129.obj HO10.out)
            replace HK4 := hid (owns_at HK4.out hL129)
            refine hK.out _ _ (Later.trans _ _ _ hS hL129) (fun hS => ?_)
            clear hK K
            try simp only [Act.put, List.setIfInBounds_toArray, List.set]
            clear hL129
            refine wpAnyH_take (i := 8) (v := .agg #[.slice a4 key.length k4, .int .i64 f, .int .i64 t, .slice b7 data.length m7]) rfl (by kernel_rfl) (by kernel_rfl) (by kernel_rfl) (fun _ _ _ h => h) (Or.inl ⟨by rfl, ?_⟩) hS ?_
            · intro w _; go_simp
            try simp only [Act.put, List.setIfInBounds_toArray, List.set]
            refine wpAnyH_ready (rs := [9]) (by kernel_rfl) (by simp) (AllReadyH.cons rfl (fun K hK => ?_) AllReadyH.nil)
            · go_simp
              have HO9 := hid (obj_new w129 (.cells #[.string ⟨#[]⟩, .int .i64 0, .int .i64 0] 65 (0, 0)))
              have HZ9 := hid hS.size
              have hL130 := Later.alloc w129 (.cells #[.string ⟨#[]⟩, .int .i64 0, .int .i64 0] 65 (0, 0))
              obtain ⟨P9, hP9⟩ : ∃ P, P = w129.heap.size := ⟨_, rfl⟩
              obtain ⟨w130, hw130⟩ : ∃ W, W = w129.alloc (.cells #[.string ⟨#[]⟩, .int .i64 0, .int .i64 0] 65 (0, 0)) := ⟨_, rfl⟩
              rw [← hP9, ← hw130] at HO9
              rw [← hP9] at HZ9
              rw [← hw130] at hL130
              rw [← hP9, ← hw130]
              clear hP9 hw130
              replace HO10 := hid (hL130.obj HO10.out)
              replace HK4 := hid (owns_at HK4.out hL130)
              replace HD7 := hid (owns_at HD7.out hL130)
              refine hK.out _ _ (Later.trans _ _ _ hS hL130) (fun hS => ?_)
              clear hK K
              try simp only [Act.put, List.setIfInBounds_toArray, List.set]
              clear hL130
              have hne : P9 ≠ P10 := fun e => by have h9 := HO9.out; have h10 := HO10.out; rw [e, h10] at h9; simp at h9
              have c90 := cell_obj (i := 0) HO9.out (v := .string ⟨#[]⟩) rfl
              have c91 := cell_obj (i := 1) HO9.out (v := .int .i64 0) rfl
              have c92 := cell_obj (i := 2) HO9.out (v := .int .i64 0) rfl
              have f90 := free_obj (i := 0) HO9.out
              have f91 := free_obj (i := 1) HO9.out
              have f92 := free_obj (i := 2) HO9.out
              refine wpAnyH_ready (rs := [11]) (by kernel_rfl) (by simp) (AllReadyH.cons rfl (fun K hK => ?_) AllReadyH.nil)
              go_simp
              clear c90 c91 c92 f90 f91 f92
              obtain ⟨wA, hwA, hLA, hA9, hA10⟩ := put_place HO9.out HO10.out hne (by have := HZ9.out; exact this) f t (strB (encVals key))
              rw [← hwA]
              have HKA := hid (owns_keep HK4.out (hLA.2) (fun g hg e => own_ne HK4.out HO9.out (by decide) (by rw [hg, e])))
              have HDA := hid (owns_keep HD7.out (hLA.2) (fun g hg e => own_ne HD7.out HO9.out (by decide) (by rw [hg, e])))
              refine hK.out _ _ (hLA.1 w2 rfl hS) (fun hS => ?_)
              clear hK K hwA
              try simp only [Act.put, List.setIfInBounds_toArray, List.set]
              have c100 := cell_obj (i := 0) hA10 (v := .slice none 0 0) rfl
              have c101 := cell_obj (i := 1) hA10 (v := .int .i64 0) rfl
              have c102 := cell_obj (i := 2) hA10 (v := .int .i64 0) rfl
              have c103 := cell_obj (i := 3) hA10 (v := .slice none 0 0) rfl
              have f100 := free_obj (i := 0) hA10
              have f101 := free_obj (i := 1) hA10
              have f102 := free_obj (i := 2) hA10
              have f103 := free_obj (i := 3) hA10
              refine wpAnyH_ready (rs := [12]) (by kernel_rfl) (by simp) (AllReadyH.cons rfl (fun K hK => ?_) AllReadyH.nil)
              go_simp
              clear c100 c101 c102 c103 f100 f101 f102 f103
              obtain ⟨wB, hwB, hLB, hB10, hB9⟩ := put_cell hA10 hA9 (Ne.symm hne) HZ10.out f t (.slice a4 key.length k4) (.slice b7 data.length m7)
              rw [← hwB]
              refine hK.out _ _ (hLB.1 w2 rfl hS) (fun hS => ?_)
              clear hK K hwB
              try simp only [Act.put, List.setIfInBounds_toArray, List.set]
              refine wpAnyH_done (by kernel_rfl) ?_ _
              refine Meet.mk' HR1.out rfl ?_
              exact ⟨P9, P10, a4, k4, b7, m7, rfl, rfl, hS, hB9, hB10, HZ9.out, HZ10.out, owns_keep HKA.out hLB.2 (fun g hg e => own_ne HKA.out hA10 (by decide) (by rw [hg, e])), owns_keep HDA.out hLB.2 (fun g hg e => own_ne HDA.out hA10 (by decide) (by rw [hg, e]))⟩
          · go_simp
            have HO9 := hid (obj_new w128 (.cells #[.string ⟨#[]⟩, .int .i64 0, .int .i64 0] 65 (0, 0)))
            have HZ9 := hid hS.size
            have hL131 := Later.alloc w128 (.cells #[.string ⟨#[]⟩, .int .i64 0, .int .i64 0] 65 (0, 0))
            obtain ⟨P9, hP9⟩ : ∃ P, P = w128.heap.size := ⟨_, rfl⟩
            obtain ⟨w131, hw131⟩ : ∃ W, W = w128.alloc (.cells #[.string ⟨#[]⟩, .int .i64 0, .int .i64 0] 65 (0, 0)) := ⟨_, rfl⟩
            rw [← hP9, ← hw131] at HO9
            rw [← hP9] at HZ9
            rw [← hw131] at hL131
            rw [← hP9, ← hw131]
            clear hP9 hw131
            replace HO10 := hid (hL131.obj HO10.out)
            replace HK4 := hid (owns_at HK4.out hL131)
            refine hK.out _ _ (Later.trans _ _ _ hS hL131) (fun hS => ?_)
            clear hK K
            try simp only [Act.put, List.setIfInBounds_toArray, List.set]
            clear hL131
            refine wpAnyH_ready (rs := [7]) (by kernel_rfl) (by simp) (AllReadyH.cons rfl (fun K hK => ?_) AllReadyH.nil)
            · go_simp
              refine (clone_bytes data _ _ (SliceOf.bytes_later HKV.out.2 hS) HDL.out).mono ?_
              rintro e w132 ⟨v7, rfl, hc7, hL132⟩
              obtain ⟨b7, m7, e7⟩ := ownsRow_slice hc7
              subst e7
              have HD7 := hid (ownsRow_base hc7 hS.size)
              clear hc7
              replace HO10 := hid (hL132.obj HO10.out)
              replace HK4 := hid (owns_at HK4.out hL132)
              replace HO9 := hid (hL132.obj HO9.out)
              refine hK.out _ _ (Later.trans _ _ _ hS hL132) (fun hS => ?_)
              clear hK K
              try simp only [Act.put, List.setIfInBounds_toArray, List.set]
              clear hL132
              refine wpAnyH_take (i := 8) (v := .agg #[.slice a4 key.length k4, .int .i64 f, .int .i64 t, .slice b7 data.length m7]) rfl (by kernel_rfl) (by kernel_rfl) (by kernel_rfl) (fun _ _ _ h => h) (Or.inl ⟨by rfl, ?_⟩) hS ?_
              · intro w _; go_simp
              try simp only [Act.put, List.setIfInBounds_toArray, List.set]
              have hne : P9 ≠ P10 := fun e => by have h9 := HO9.out; have h10 := HO10.out; rw [e, h10] at h9; simp at h9
              have c90 := cell_obj (i := 0) HO9.out (v := .string ⟨#[]⟩) rfl
              have c91 := cell_obj (i := 1) HO9.out (v := .int .i64 0) rfl
              have c92 := cell_obj (i := 2) HO9.out (v := .int .i64 0) rfl
              have f90 := free_obj (i := 0) HO9.out
              have f91 := free_obj (i := 1) HO9.out
              have f92 := free_obj (i := 2) HO9.out
              refine wpAnyH_ready (rs := [11]) (by kernel_rfl) (by simp) (AllReadyH.cons rfl (fun K hK => ?_) AllReadyH.nil)
              go_simp
              clear c90 c91 c92 f90 f91 f92
              obtain ⟨wA, hwA, hLA, hA9, hA10⟩ := put_place HO9.out HO10.out hne (by have := HZ9.out; exact this) f t (strB (encVals key))
              rw [← hwA]
              have HKA := hid (owns_keep HK4.out (hLA.2) (fun g hg e => own_ne HK4.out HO9.out (by decide) (by rw [hg, e])))
              have HDA := hid (owns_keep HD7.out (hLA.2) (fun g hg e => own_ne HD7.out HO9.out (by decide) (by rw [hg, e])))
              refine hK.out _ _ (hLA.1 w2 rfl hS) (fun hS => ?_)
              clear hK K hwA
              try simp only [Act.put, List.setIfInBounds_toArray, List.set]
              have c100 := cell_obj (i := 0) hA10 (v := .slice none 0 0) rfl
              have c101 := cell_obj (i := 1) hA10 (v := .int .i64 0) rfl
              have c102 := cell_obj (i := 2) hA10 (v := .int .i64 0) rfl
              have c103 := cell_obj (i := 3) hA10 (v := .slice none 0 0) rfl
              have f100 := free_obj (i := 0) hA10
              have f101 := free_obj (i := 1) hA10
              have f102 := free_obj (i := 2) hA10
              have f103 := free_obj (i := 3) hA10
              refine wpAnyH_ready (rs := [12]) (by kernel_rfl) (by simp) (AllReadyH.cons rfl (fun K hK => ?_) AllReadyH.nil)
              go_simp
              clear c100 c101 c102 c103 f100 f101 f102 f103
              obtain ⟨wB, hwB, hLB, hB10, hB9⟩ := put_cell hA10 hA9 (Ne.symm hne) HZ10.out f t (.slice a4 key.length k4) (.slice b7 data.length m7)
              rw [← hwB]
              refine hK.out _ _ (hLB.1 w2 rfl hS) (fun hS => ?_)
              clear hK K hwB
              try simp only [Act.put, List.setIfInBounds_toArray, List.set]
              refine wpAnyH_done (by kernel_rfl) ?_ _
              refine Meet.mk' HR1.out rfl ?_
              exact ⟨P9, P10, a4, k4, b7, m7, rfl, rfl, hS, hB9, hB10, HZ9.out, HZ10.out, owns_keep HKA.out hLB.2 (fun g hg e => own_ne HKA.out hA10 (by decide) (by rw [hg, e])), owns_keep HDA.out hLB.2 (fun g hg e => own_ne HDA.out hA10 (by decide) (by rw [hg, e]))⟩
        · go_simp
          have HO9 := hid (obj_new w127 (.cells #[.string ⟨#[]⟩, .int .i64 0, .int .i64 0] 65 (0, 0)))
          have HZ9 := hid hS.size
          have hL133 := Later.alloc w127 (.cells #[.string ⟨#[]⟩, .int .i64 0, .int .i64 0] 65 (0, 0))
          obtain ⟨P9, hP9⟩ : ∃ P, P = w127.heap.size := ⟨_, rfl⟩
          obtain ⟨w133, hw133⟩ : ∃ W, W = w127.alloc (.cells #[.string ⟨#[]⟩, .int .i64 0, .int .i64 0] 65 (0, 0)) := ⟨_, rfl⟩
          rw [← hP9, ← hw133] at HO9
          rw [← hP9] at HZ9
          rw [← hw133] at hL133
          rw [← hP9, ← hw133]
          clear hP9 hw133
          replace HO10 := hid (hL133.obj HO10.out)
          refine hK.out _ _ (Later.trans _ _ _ hS hL133) (fun hS => ?_)
          clear hK K
          try simp only [Act.put, List.setIfInBounds_toArray, List.set]
          clear hL133
          refine wpAnyH_ready (rs := [4]) (by kernel_rfl) (by simp) (AllReadyH.cons rfl (fun K hK => ?_) AllReadyH.nil)
          · go_simp
            refine (clone_vals key _ _ (HKV.out.1.later hS) (by have := HK8.out; omega)).mono ?_
            rintro e w134 ⟨v4, rfl, hc4, hL134⟩
            obtain ⟨a4, k4, e4⟩ := ownsRow_slice hc4.1
            subst e4
            have HK4 := hid (ownsRow_base hc4.1 hS.size)
            clear hc4
            replace HO10 := hid (hL134.obj HO10.out)
            replace HO9 := hid (hL134.obj HO9.out)
            refine hK.out _ _ (Later.trans _ _ _ hS hL134) (fun hS => ?_)
            clear hK K
            try simp only [Act.put, List.setIfInBounds_toArray, List.set]
            clear hL134
            refine wpAnyH_ready (rs := [7]) (by kernel_rfl) (by simp) (AllReadyH.cons rfl (fun K hK => ?_) AllReadyH.nil)
            · go_simp
              refine (clone_bytes data _ _ (SliceOf.bytes_later HKV.out.2 hS) HDL.out).mono ?_
              rintro e w135 ⟨v7, rfl, hc7, hL135⟩
              obtain ⟨b7, m7, e7⟩ := ownsRow_slice hc7
              subst e7
              have HD7 := hid (ownsRow_base hc7 hS.size)
              clear hc7
              replace HO10 := hid (hL135.obj HO10.out)
              replace HO9 := hid (hL135.obj HO9.out)
              replace HK4 := hid (owns_at HK4.out hL135)
              refine hK.out _ _ (Later.trans _ _ _ hS hL135) (fun hS => ?_)
              clear hK K
              try simp only [Act.put, List.setIfInBounds_toArray, List.set]
              clear hL135
              refine wpAnyH_take (i := 8) (v := .agg #[.slice a4 key.length k4, .int .i64 f, .int .i64 t, .slice b7 data.length m7]) rfl (by kernel_rfl) (by kernel_rfl) (by kernel_rfl) (fun _ _ _ h => h) (Or.inl ⟨by rfl, ?_⟩) hS ?_
              · intro w _; go_simp
              try simp only [Act.put, List.setIfInBounds_toArray, List.set]
              have hne : P9 ≠ P10 := fun e => by have h9 := HO9.out; have h10 := HO10.out; rw [e, h10] at h9; simp at h9
              have c90 := cell_obj (i := 0) HO9.out (v := .string ⟨#[]⟩) rfl
              have c91 := cell_obj (i := 1) HO9.out (v := .int .i64 0) rfl
              have c92 := cell_obj (i := 2) HO9.out (v := .int .i64 0) rfl
              have f90 := free_obj (i := 0) HO9.out
              have f91 := free_obj (i := 1) HO9.out
              have f92 := free_obj (i := 2) HO9.out
              refine wpAnyH_ready (rs := [11]) (by kernel_rfl) (by simp) (AllReadyH.cons rfl (fun K hK => ?_) AllReadyH.nil)
              go_simp
              clear c90 c91 c92 f90 f91 f92
              obtain ⟨wA, hwA, hLA, hA9, hA10⟩ := put_place HO9.out HO10.out hne (by have := HZ9.out; exact this) f t (strB (encVals key))
              rw [← hwA]
              have HKA := hid (owns_keep HK4.out (hLA.2) (fun g hg e => own_ne HK4.out HO9.out (by decide) (by rw [hg, e])))
              have HDA := hid (owns_keep HD7.out (hLA.2) (fun g hg e => own_ne HD7.out HO9.out (by decide) (by rw [hg, e])))
              refine hK.out _ _ (hLA.1 w2 rfl hS) (fun hS => ?_)
              clear hK K hwA
              try simp only [Act.put, List.setIfInBounds_toArray, List.set]
              have c100 := cell_obj (i := 0) hA10 (v := .slice none 0 0) rfl
              have c101 := cell_obj (i := 1) hA10 (v := .int .i64 0) rfl
              have c102 := cell_obj (i := 2) hA10 (v := .int .i64 0) rfl
              have c103 := cell_obj (i := 3) hA10 (v := .slice none 0 0) rfl
              have f100 := free_obj (i := 0) hA10
              have f101 := free_obj (i := 1) hA10
              have f102 := free_obj (i := 2) hA10
              have f103 := free_obj (i := 3) hA10
              refine wpAnyH_ready (rs := [12]) (by kernel_rfl) (by simp) (AllReadyH.cons rfl (fun K hK => ?_) AllReadyH.nil)
              go_simp
              clear c100 c101 c102 c103 f100 f101 f102 f103
              obtain ⟨wB, hwB, hLB, hB10, hB9⟩ := put_cell hA10 hA9 (Ne.symm hne) HZ10.out f t (.slice a4 key.length k4) (.slice b7 data.length m7)
              rw [← hwB]
              refine hK.out _ _ (hLB.1 w2 rfl hS) (fun hS => ?_)
              clear hK K hwB
              try simp only [Act.put, List.setIfInBounds_toArray, List.set]
              refine wpAnyH_done (by kernel_rfl) ?_ _
              refine Meet.mk' HR1.out rfl ?_
              exact ⟨P9, P10, a4, k4, b7, m7, rfl, rfl, hS, hB9, hB10, HZ9.out, HZ10.out, owns_keep HKA.out hLB.2 (fun g hg e => own_ne HKA.out hA10 (by decide) (by rw [hg, e])), owns_keep HDA.out hLB.2 (fun g hg e => own_ne HDA.out hA10 (by decide) (by rw [hg, e]))⟩
    · go_simp
      have HO9 := hid (obj_new w100 (.cells #[.string ⟨#[]⟩, .int .i64 0, .int .i64 0] 65 (0, 0)))
      have HZ9 := hid hS.size
      have hL136 := Later.alloc w100 (.cells #[.string ⟨#[]⟩, .int .i64 0, .int .i64 0] 65 (0, 0))
      obtain ⟨P9, hP9⟩ : ∃ P, P = w100.heap.size := ⟨_, rfl⟩
      obtain ⟨w136, hw136⟩ : ∃ W, W = w100.alloc (.cells #[.string ⟨#[]⟩, .int .i64 0, .int .i64 0] 65 (0, 0)) := ⟨_, rfl⟩
      rw [← hP9, ← hw136] at HO9
      rw [← hP9] at HZ9
      rw [← hw136] at hL136
      rw [← hP9, ← hw136]
      clear hP9 hw136
      refine hK.out _ _ (Later.trans _ _ _ hS hL136) (fun hS => ?_)
      clear hK K
      try simp only [Act.put, List.setIfInBounds_toArray, List.set]
      clear hL136
      refine wpAnyH_ready (rs := [2, 10]) (by kernel_rfl) (by simp) (AllReadyH.cons rfl (fun K hK => ?_) (AllReadyH.cons rfl (fun K hK => ?_) AllReadyH.nil))
      · go_simp
        refine (at_any ((f, t), key) _ _ (HKV.out.1.later hS) HIO2.out).mono ?_
        rintro e w137 ⟨rfl, hL137⟩
        rw [HKEY2.out]
        replace HO9 := hid (hL137.obj HO9.out)
        refine hK.out _ _ (Later.trans _ _ _ hS hL137) (fun hS => ?_)
        clear hK K
        try simp only [Act.put, List.setIfInBounds_toArray, List.set]
        clear hL137
        refine wpAnyH_ready (rs := [4, 10]) (by kernel_rfl) (by simp) (AllReadyH.cons rfl (fun K hK => ?_) (AllReadyH.cons rfl (fun K hK => ?_) AllReadyH.nil))
        · go_simp
          refine (clone_vals key _ _ (HKV.out.1.later hS) (by have := HK8.out; omega)).mono ?_
          rintro e w138 ⟨v4, rfl, hc4, hL138⟩
          obtain ⟨a4, k4, e4⟩ := ownsRow_slice hc4.1
          subst e4
          have HK4 := hid (ownsRow_base hc4.1 hS.size)
          clear hc4
          replace HO9 := hid (hL138.obj HO9.out)
          refine hK.out _ _ (Later.trans _ _ _ hS hL138) (fun hS => ?_)
          clear hK K
          try simp only [Act.put, List.setIfInBounds_toArray, List.set]
          clear hL138
          refine wpAnyH_ready (rs := [7, 10]) (by kernel_rfl) (by simp) (AllReadyH.cons rfl (fun K hK => ?_) (AllReadyH.cons rfl (fun K hK => ?_) AllReadyH.nil))
          · go_simp
            refine (clone_bytes data _ _ (SliceOf.bytes_later HKV.out.2 hS) HDL.out).mono ?_
            rintro e w139 ⟨v7, rfl, hc7, hL139⟩
            obtain ⟨b7, m7, e7⟩ := ownsRow_slice hc7
            subst e7
            have HD7 := hid (ownsRow_base hc7 hS.size)
            clear hc7
            replace HO9 := hid (hL139.obj HO9.out)
            replace HK4 := hid (owns_at HK4.out hL139)
            refine hK.out _ _ (Later.trans _ _ _ hS hL139) (fun hS => ?_)
            clear hK K
            try simp only [Act.put, List.setIfInBounds_toArray, List.set]
            clear hL139
            refine wpAnyH_take (i := 8) (v := .agg #[.slice a4 key.length k4, .int .i64 f, .int .i64 t, .slice b7 data.length m7]) rfl (by kernel_rfl) (by kernel_rfl) (by kernel_rfl) (fun _ _ _ h => h) (Or.inl ⟨by rfl, ?_⟩) hS ?_
            · intro w _; go_simp
            try simp only [Act.put, List.setIfInBounds_toArray, List.set]
            refine wpAnyH_ready (rs := [10]) (by kernel_rfl) (by simp) (AllReadyH.cons rfl (fun K hK => ?_) AllReadyH.nil)
            · go_simp
              have HO10 := hid (obj_new w139 (.cells #[.slice none 0 0, .int .i64 0, .int .i64 0, .slice none 0 0] 57 (0, 0)))
              have HZ10 := hid hS.size
              have hL140 := Later.alloc w139 (.cells #[.slice none 0 0, .int .i64 0, .int .i64 0, .slice none 0 0] 57 (0, 0))
              obtain ⟨P10, hP10⟩ : ∃ P, P = w139.heap.size := ⟨_, rfl⟩
              obtain ⟨w140, hw140⟩ : ∃ W, W = w139.alloc (.cells #[.slice none 0 0, .int .i64 0, .int .i64 0, .slice none 0 0] 57 (0, 0)) := ⟨_, rfl⟩
              rw [← hP10, ← hw140] at HO10
              rw [← hP10] at HZ10
              rw [← hw140] at hL140
              rw [← hP10, ← hw140]
              clear hP10 hw140
              replace HO9 := hid (hL140.obj HO9.out)
              replace HK4 := hid (owns_at HK4.out hL140)
              replace HD7 := hid (owns_at HD7.out hL140)
              refine hK.out _ _ (Later.trans _ _ _ hS hL140) (fun hS => ?_)
              clear hK K
              try simp only [Act.put, List.setIfInBounds_toArray, List.set]
              clear hL140
              have hne : P9 ≠ P10 := fun e => by have h9 := HO9.out; have h10 := HO10.out; rw [e, h10] at h9; simp at h9
              have c90 := cell_obj (i := 0) HO9.out (v := .string ⟨#[]⟩) rfl
              have c91 := cell_obj (i := 1) HO9.out (v := .int .i64 0) rfl
              have c92 := cell_obj (i := 2) HO9.out (v := .int .i64 0) rfl
              have f90 := free_obj (i := 0) HO9.out
              have f91 := free_obj (i := 1) HO9.out
              have f92 := free_obj (i := 2) HO9.out
              refine wpAnyH_ready (rs := [11]) (by kernel_rfl) (by simp) (AllReadyH.cons rfl (fun K hK => ?_) AllReadyH.nil)
              go_simp
              clear c90 c91 c92 f90 f91 f92
              obtain ⟨wA, hwA, hLA, hA9, hA10⟩ := put_place HO9.out HO10.out hne (by have := HZ9.out; exact this) f t (strB (encVals key))
              rw [← hwA]
              have HKA := hid (owns_keep HK4.out (hLA.2) (fun g hg e => own_ne HK4.out HO9.out (by decide) (by rw [hg, e])))
              have HDA := hid (owns_keep HD7.out (hLA.2) (fun g hg e => own_ne HD7.out HO9.out (by decide) (by rw [hg, e])))
              refine hK.out _ _ (hLA.1 w2 rfl hS) (fun hS => ?_)
              clear hK K hwA
              try simp only [Act.put, List.setIfInBounds_toArray, List.set]
              have c100 := cell_obj (i := 0) hA10 (v := .slice none 0 0) rfl
              have c101 := cell_obj (i := 1) hA10 (v := .int .i64 0) rfl
              have c102 := cell_obj (i := 2) hA10 (v := .int .i64 0) rfl
              have c103 := cell_obj (i := 3) hA10 (v := .slice none 0 0) rfl
              have f100 := free_obj (i := 0) hA10
              have f101 := free_obj (i := 1) hA10
              have f102 := free_obj (i := 2) hA10
              have f103 := free_obj (i := 3) hA10
              refine wpAnyH_ready (rs := [12]) (by kernel_rfl) (by simp) (AllReadyH.cons rfl (fun K hK => ?_) AllReadyH.nil)
              go_simp
              clear c100 c101 c102 c103 f100 f101 f102 f103
              obtain ⟨wB, hwB, hLB, hB10, hB9⟩ := put_cell hA10 hA9 (Ne.symm hne) HZ10.out f t (.slice a4 key.length k4) (.slice b7 data.length m7)
              rw [← hwB]
              refine hK.out _ _ (hLB.1 w2 rfl hS) (fun hS => ?_)
              clear hK K hwB
              try simp only [Act.put, List.setIfInBounds_toArray, List.set]
              refine wpAnyH_done (by kernel_rfl) ?_ _
              refine Meet.mk' HR1.out rfl ?_
              exact ⟨P9, P10, a4, k4, b7, m7, rfl, rfl, hS, hB9, hB10, HZ9.out, HZ10.out, owns_keep HKA.out hLB.2 (fun g hg e => own_ne HKA.out hA10 (by decide) (by rw [hg, e])), owns_keep HDA.out hLB.2 (fun g hg e => own_ne HDA.out hA10 (by decide) (by rw [hg, e]))⟩
          · go_simp
            have HO10 := hid (obj_new w138 (.cells #[.slice none 0 0, .int .i64 0, .int .i64 0, .slice none 0 0] 57 (0, 0)))
            have HZ10 := hid hS.size
            have hL141 := Later.alloc w138 (.cells #[.slice none 0 0, .int .i64 0, .int .i64 0, .slice none 0 0] 57 (0, 0))
            obtain ⟨P10, hP10⟩ : ∃ P, P = w138.heap.size := ⟨_, rfl⟩
            obtain ⟨w141, hw141⟩ : ∃ W, W = w138.alloc (.cells #[.slice none 0 0, .int .i64 0, .int .i64 0, .slice none 0 0] 57 (0, 0)) := ⟨_, rfl⟩
            rw [← hP10, ← hw141] at HO10
            rw [← hP10] at HZ10
            rw [← hw141] at hL141
            rw [← hP10, ← hw141]
            clear hP10 hw141
            replace HO9 := hid (hL141.obj HO9.out)
            replace HK4 := hid (owns_at HK4.out hL141)
            refine hK.out _ _ (Later.trans _ _ _ hS hL141) (fun hS => ?_)
            clear hK K
            try simp only [Act.put, List.setIfInBounds_toArray, List.set]
            clear hL141
            refine wpAnyH_ready (rs := [7]) (by kernel_rfl) (by simp) (AllReadyH.cons rfl (fun K hK => ?_) AllReadyH.nil)
            · go_simp
              refine (clone_bytes data _ _ (SliceOf.bytes_later HKV.out.2 hS) HDL.out).mono ?_
              rintro e w142 ⟨v7, rfl, hc7, hL142⟩
              obtain ⟨b7, m7, e7⟩ := ownsRow_slice hc7
              subst e7
              have HD7 := hid (ownsRow_base hc7 hS.size)
              clear hc7
              replace HO9 := hid (hL142.obj HO9.out)
              replace HK4 := hid (owns_at HK4.out hL142)
              replace HO10 := hid (hL142.obj HO10.out)
              refine hK.out _ _ (Later.trans _ _ _ hS hL142) (fun hS => ?_)
              clear hK K
              try simp only [Act.put, List.setIfInBounds_toArray, List.set]
              clear hL142
              refine wpAnyH_take (i := 8) (v := .agg #[.slice a4 key.length k4, .int .i64 f, .int .i64 t, .slice b7 data.length m7]) rfl (by kernel_rfl) (by kernel_rfl) (by kernel_rfl) (fun _ _ _ h => h) (Or.inl ⟨by rfl, ?_⟩) hS ?_
              · intro w _; go_simp
              try simp only [Act.put, List.setIfInBounds_toArray, List.set]
              have hne : P9 ≠ P10 := fun e => by have h9 := HO9.out; have h10 := HO10.out; rw [e, h10] at h9; simp at h9
              have c90 := cell_obj (i := 0) HO9.out (v := .string ⟨#[]⟩) rfl
              have c91 := cell_obj (i := 1) HO9.out (v := .int .i64 0) rfl
              have c92 := cell_obj (i := 2) HO9.out (v := .int .i64 0) rfl
              have f90 := free_obj (i := 0) HO9.out
              have f91 := free_obj (i := 1) HO9.out
              have f92 := free_obj (i := 2) HO9.out
              refine wpAnyH_ready (rs := [11]) (by kernel_rfl) (by simp) (AllReadyH.cons rfl (fun K hK => ?_) AllReadyH.nil)
              go_simp
              clear c90 c91 c92 f90 f91 f92
              obtain ⟨wA, hwA, hLA, hA9, hA10⟩ := put_place HO9.out HO10.out hne (by have := HZ9.out; exact this) f t (strB (encVals key))
              rw [← hwA]
              have HKA := hid (owns_keep HK4.out (hLA.2) (fun g hg e => own_ne HK4.out HO9.out (by decide) (by rw [hg, e])))
              have HDA := hid (owns_keep HD7.out (hLA.2) (fun g hg e => own_ne HD7.out HO9.out (by decide) (by rw [hg, e])))
              refine hK.out _ _ (hLA.1 w2 rfl hS) (fun hS => ?_)
              clear hK K hwA
              try simp only [Act.put, List.setIfInBounds_toArray, List.set]
              have c100 := cell_obj (i := 0) hA10 (v := .slice none 0 0) rfl
              have c101 := cell_obj (i := 1) hA10 (v := .int .i64 0) rfl
              have c102 := cell_obj (i := 2) hA10 (v := .int .i64 0) rfl
              have c103 := cell_obj (i := 3) hA10 (v := .slice none 0 0) rfl
              have f100 := free_obj (i := 0) hA10
              have f101 := free_obj (i := 1) hA10
              have f102 := free_obj (i := 2) hA10
              have f103 := free_obj (i := 3) hA10
              refine wpAnyH_ready (rs := [12]) (by kernel_rfl) (by simp) (AllReadyH.cons rfl (fun K hK => ?_) AllReadyH.nil)
              go_simp
              clear c100 c101 c102 c103 f100 f101 f102 f103
              obtain ⟨wB, hwB, hLB, hB10, hB9⟩ := put_cell hA10 hA9 (Ne.symm hne) HZ10.out f t (.slice a4 key.length k4) (.slice b7 data.length m7)
              rw [← hwB]
              refine hK.out _ _ (hLB.1 w2 rfl hS) (fun hS => ?_)
              clear hK K hwB
              try simp only [Act.put, List.setIfInBounds_toArray, List.set]
              refine wpAnyH_done (by kernel_rfl) ?_ _
              refine Meet.mk' HR1.out rfl ?_
              exact ⟨P9, P10, a4, k4, b7, m7, rfl, rfl, hS, hB9, hB10, HZ9.out, HZ10.out, owns_keep HKA.out hLB.2 (fun g hg e => own_ne HKA.out hA10 (by decide) (by rw [hg, e])), owns_keep HDA.out hLB.2 (fun g hg e => own_ne HDA.out hA10 (by decide) (by rw [hg, e]))⟩
        · go_simp
          have HO10 := hid (obj_new w137 (.cells #[.slice none 0 0, .int .i64 0, .int .i64 0, .slice none 0 0] 57 (0, 0)))
          have HZ10 := hid hS.size
          have hL143 := Later.alloc w137 (.cells #[.slice none 0 0, .int .i64 0, .int .i64 0, .slice none 0 0] 57 (0, 0))
          obtain ⟨P10, hP10⟩ : ∃ P, P = w137.heap.size := ⟨_, rfl⟩
          obtain ⟨w143, hw143⟩ : ∃ W, W = w137.alloc (.cells #[.slice none 0 0, .int .i64 0, .int .i64 0, .slice none 0 0] 57 (0, 0)) := ⟨_, rfl⟩
          rw [← hP10, ← hw143] at HO10
          rw [← hP10] at HZ10
          rw [← hw143] at hL143
          rw [← hP10, ← hw143]
          clear hP10 hw143
          replace HO9 := hid (hL143.obj HO9.out)
          refine hK.out _ _ (Later.trans _ _ _ hS hL143) (fun hS => ?_)
          clear hK K
          try simp only [Act.put, List.setIfInBounds_toArray, List.set]
          clear hL143
          refine wpAnyH_ready (rs := [4]) (by kernel_rfl) (by simp) (AllReadyH.cons rfl (fun K hK => ?_) AllReadyH.nil)
          · go_simp
            refine (clone_vals key _ _ (HKV.out.1.later hS) (by have := HK8.out; omega)).mono ?_
            rintro e w144 ⟨v4, rfl, hc4, hL144⟩
            obtain ⟨a4, k4, e4⟩ := ownsRow_slice hc4.1
            subst e4
            have HK4 := hid (ownsRow_base hc4.1 hS.size)
            clear hc4
            replace HO9 := hid (hL144.obj HO9.out)
            replace HO10 := hid (hL144.obj HO10.out)
            refine hK.out _ _ (Later.trans _ _ _ hS hL144) (fun hS => ?_)
            clear hK K
            try simp only [Act.put, List.setIfInBounds_toArray, List.set]
            clear hL144
            refine wpAnyH_ready (rs := [7]) (by kernel_rfl) (by simp) (AllReadyH.cons rfl (fun K hK => ?_) AllReadyH.nil)
            · go_simp
              refine (clone_bytes data _ _ (SliceOf.bytes_later HKV.out.2 hS) HDL.out).mono ?_
              rintro e w145 ⟨v7, rfl, hc7, hL145⟩
              obtain ⟨b7, m7, e7⟩ := ownsRow_slice hc7
              subst e7
              have HD7 := hid (ownsRow_base hc7 hS.size)
              clear hc7
              replace HO9 := hid (hL145.obj HO9.out)
              replace HO10 := hid (hL145.obj HO10.out)
              replace HK4 := hid (owns_at HK4.out hL145)
              refine hK.out _ _ (Later.trans _ _ _ hS hL145) (fun hS => ?_)
              clear hK K
              try simp only [Act.put, List.setIfInBounds_toArray, List.set]
              clear hL145
              refine wpAnyH_take (i := 8) (v := .agg #[.slice a4 key.length k4, .int .i64 f, .int .i64 t, .slice b7 data.length m7]) rfl (by kernel_rfl) (by kernel_rfl) (by kernel_rfl) (fun _ _ _ h => h) (Or.inl ⟨by rfl, ?_⟩) hS ?_
              · intro w _; go_simp
              try simp only [Act.put, List.setIfInBounds_toArray, List.set]
              have hne : P9 ≠ P10 := fun e => by have h9 := HO9.out; have h10 := HO10.out; rw [e, h10] at h9; simp at h9
              have c90 := cell_obj (i := 0) HO9.out (v := .string ⟨#[]⟩) rfl
              have c91 := cell_obj (i := 1) HO9.out (v := .int .i64 0) rfl
              have c92 := cell_obj (i := 2) HO9.out (v := .int .i64 0) rfl
              have f90 := free_obj (i := 0) HO9.out
              have f91 := free_obj (i := 1) HO9.out
              have f92 := free_obj (i := 2) HO9.out
              refine wpAnyH_ready (rs := [11]) (by kernel_rfl) (by simp) (AllReadyH.cons rfl (fun K hK => ?_) AllReadyH.nil)
              go_simp
              clear c90 c91 c92 f90 f91 f92
              obtain ⟨wA, hwA, hLA, hA9, hA10⟩ := put_place HO9.out HO10.out hne (by have := HZ9.out; exact this) f t (strB (encVals key))
              rw [← hwA]
              have HKA := hid (owns_keep HK4.out (hLA.2) (fun g hg e => own_ne HK4.out HO9.out (by decide) (by rw [hg, e])))
              have HDA := hid (owns_keep HD7.out (hLA.2) (fun g hg e => own_ne HD7.out HO9.out (by decide) (by rw [hg, e])))
              refine hK.out _ _ (hLA.1 w2 rfl hS) (fun hS => ?_)
              clear hK K hwA
              try simp only [Act.put, List.setIfInBounds_toArray, List.set]
              have c100 := cell_obj (i := 0) hA10 (v := .slice none 0 0) rfl
              have c101 := cell_obj (i := 1) hA10 (v := .int .i64 0) rfl
              have c102 := cell_obj (i := 2) hA10 (v := .int .i64 0) rfl
              have c103 := cell_obj (i := 3) hA10 (v := .slice none 0 0) rfl
              have f100 := free_obj (i := 0) hA10
              have f101 := free_obj (i := 1) hA10
              have f102 := free_obj (i := 2) hA10
              have f103 := free_obj (i := 3) hA10
              refine wpAnyH_ready (rs := [12]) (by kernel_rfl) (by simp) (AllReadyH.cons rfl (fun K hK => ?_) AllReadyH.nil)
              go_simp
              clear c100 c101 c102 c103 f100 f101 f102 f103
              obtain ⟨wB, hwB, hLB, hB10, hB9⟩ := put_cell hA10 hA9 (Ne.symm hne) HZ10.out f t (.slice a4 key.length k4) (.slice b7 data.length m7)
              rw [← hwB]
              refine hK.out _ _ (hLB.1 w2 rfl hS) (fun hS => ?_)
              clear hK K hwB
              try simp only [Act.put, List.setIfInBounds_toArray, List.set]
              refine wpAnyH_done (by kernel_rfl) ?_ _
              refine Meet.mk' HR1.out rfl ?_
              exact ⟨P9, P10, a4, k4, b7, m7, rfl, rfl, hS, hB9, hB10, HZ9.out, HZ10.out, owns_keep HKA.out hLB.2 (fun g hg e => own_ne HKA.out hA10 (by decide) (by rw [hg, e])), owns_keep HDA.out hLB.2 (fun g hg e => own_ne HDA.out hA10 (by decide) (by rw [hg, e]))⟩
      · go_simp
        have HO10 := hid (obj_new w136 (.cells #[.slice none 0 0, .int .i64 0, .int .i64 0, .slice none 0 0] 57 (0, 0)))
        have HZ10 := hid hS.size
        have hL146 := Later.alloc w136 (.cells #[.slice none 0 0, .int .i64 0, .int .i64 0, .slice none 0 0] 57 (0, 0))
        obtain ⟨P10, hP10⟩ : ∃ P, P = w136.heap.size := ⟨_, rfl⟩
        obtain ⟨w146, hw146⟩ : ∃ W, W = w136.alloc (.cells #[.slice none 0 0, .int .i64 0, .int .i64 0, .slice none 0 0] 57 (0, 0)) := ⟨_, rfl⟩
        rw [← hP10, ← hw146] at HO10
        rw [← hP10] at HZ10
        rw [← hw146] at hL146
        rw [← hP10, ← hw146]
        clear hP10 hw146
        replace HO9 := hid (hL146.obj HO9.out)
        refine hK.out _ _ (Later.trans _ _ _ hS hL146) (fun hS => ?_)
        clear hK K
        try simp only [Act.put, List.setIfInBounds_toArray, List.set]
        clear hL146
        refine wpAnyH_ready (rs := [2]) (by kernel_rfl) (by simp) (AllReadyH.cons rfl (fun K hK => ?_) AllReadyH.nil)
        · go_simp
          refine (at_any ((f, t), key) _ _ (HKV.out.1.later hS) HIO2.out).mono ?_
          rintro e w147 ⟨rfl, hL147⟩
          rw [HKEY2.out]
          replace HO9 := hid (hL147.obj HO9.out)
          replace HO10 := hid (hL147.obj HO10.out)
          refine hK.out _ _ (Later.trans _ _ _ hS hL147) (fun hS => ?_)
          clear hK K
          try simp only [Act.put, List.setIfInBounds_toArray, List.set]
          clear hL147
          refine wpAnyH_ready (rs := [4]) (by kernel_rfl) (by simp) (AllReadyH.cons rfl (fun K hK => ?_) AllReadyH.nil)
          · go_simp
            refine (clone_vals key _ _ (HKV.out.1.later hS) (by have := HK8.out; omega)).mono ?_
            rintro e w148 ⟨v4, rfl, hc4, hL148⟩
            obtain ⟨a4, k4, e4⟩ := ownsRow_slice hc4.1
            subst e4
            have HK4 := hid (ownsRow_base hc4.1 hS.size)
            clear hc4
            replace HO9 := hid (hL148.obj HO9.out)
            replace HO10 := hid (hL148.obj HO10.out)
            refine hK.out _ _ (Later.trans _ _ _ hS hL148) (fun hS => ?_)
            clear hK K
            try simp only [Act.put, List.setIfInBounds_toArray, List.set]
            clear hL148
            refine wpAnyH_ready (rs := [7]) (by kernel_rfl) (by simp) (AllReadyH.cons rfl (fun K hK => ?_) AllReadyH.nil)
            · go_simp
              refine (clone_bytes data _ _ (SliceOf.bytes_later HKV.out.2 hS) HDL.out).mono ?_
              rintro e w149 ⟨v7, rfl, hc7, hL149⟩
              obtain ⟨b7, m7, e7⟩ := ownsRow_slice hc7
              subst e7
              have HD7 := hid (ownsRow_base hc7 hS.size)
              clear hc7
              replace HO9 := hid (hL149.obj HO9.out)
              replace HO10 := hid (hL149.obj HO10.out)
              replace HK4 := hid (owns_at HK4.out hL149)
              refine hK.out _ _ (Later.trans _ _ _ hS hL149) (fun hS => ?_)
              clear hK K
              try simp only [Act.put, List.setIfInBounds_toArray, List.set]
              clear hL149
              refine wpAnyH_take (i := 8) (v := .agg #[.slice a4 key.length k4, .int .i64 f, .int .i64 t, .slice b7 data.length m7]) rfl (by kernel_rfl) (by kernel_rfl) (by kernel_rfl) (fun _ _ _ h => h) (Or.inl ⟨by rfl, ?_⟩) hS ?_
              · intro w _; go_simp
              try simp only [Act.put, List.setIfInBounds_toArray, List.set]
              have hne : P9 ≠ P10 := fun e => by have h9 := HO9.out; have h10 := HO10.out; rw [e, h10] at h9; simp at h9
              have c90 := cell_obj (i := 0) HO9.out (v := .string ⟨#[]⟩) rfl
              have c91 := cell_obj (i := 1) HO9.out (v := .int .i64 0) rfl
              have c92 := cell_obj (i := 2) HO9.out (v := .int .i64 0) rfl
              have f90 := free_obj (i := 0) HO9.out
              have f91 := free_obj (i := 1) HO9.out
              have f92 := free_obj (i := 2) HO9.out
              refine wpAnyH_ready (rs := [11]) (by kernel_rfl) (by simp) (AllReadyH.cons rfl (fun K hK => ?_) AllReadyH.nil)
              go_simp
              clear c90 c91 c92 f90 f91 f92
              obtain ⟨wA, hwA, hLA, hA9, hA10⟩ := put_place HO9.out HO10.out hne (by have := HZ9.out; exact this) f t (strB (encVals key))
              rw [← hwA]
              have HKA := hid (owns_keep HK4.out (hLA.2) (fun g hg e => own_ne HK4.out HO9.out (by decide) (by rw [hg, e])))
              have HDA := hid (owns_keep HD7.out (hLA.2) (fun g hg e => own_ne HD7.out HO9.out (by decide) (by rw [hg, e])))
              refine hK.out _ _ (hLA.1 w2 rfl hS) (fun hS => ?_)
              clear hK K hwA
              try simp only [Act.put, List.setIfInBounds_toArray, List.set]
              have c100 := cell_obj (i := 0) hA10 (v := .slice none 0 0) rfl
              have c101 := cell_obj (i := 1) hA10 (v := .int .i64 0) rfl
              have c102 := cell_obj (i := 2) hA10 (v := .int .i64 0) rfl
              have c103 := cell_obj (i := 3) hA10 (v := .slice none 0 0) rfl
              have f100 := free_obj (i := 0) hA10
              have f101 := free_obj (i := 1) hA10
              have f102 := free_obj (i := 2) hA10
              have f103 := free_obj (i := 3) hA10
              refine wpAnyH_ready (rs := [12]) (by kernel_rfl) (by simp) (AllReadyH.cons rfl (fun K hK => ?_) AllReadyH.nil)
              go_simp
              clear c100 c101 c102 c103 f100 f101 f102 f103
              obtain ⟨wB, hwB, hLB, hB10, hB9⟩ := put_cell hA10 hA9 (Ne.symm hne) HZ10.out f t (.slice a4 key.length k4) (.slice b7 data.length m7)
              rw [← hwB]
              refine hK.out _ _ (hLB.1 w2 rfl hS) (fun hS => ?_)
              clear hK K hwB
              try simp only [Act.put, List.setIfInBounds_toArray, List.set]
              refine wpAnyH_done (by kernel_rfl) ?_ _
              refine Meet.mk' HR1.out rfl ?_
              exact ⟨P9, P10, a4, k4, b7, m7, rfl, rfl, hS, hB9, hB10, HZ9.out, HZ10.out, owns_keep HKA.out hLB.2 (fun g hg e => own_ne HKA.out hA10 (by decide) (by rw [hg, e])), owns_keep HDA.out hLB.2 (fun g hg e => own_ne HDA.out hA10 (by decide) (by rw [hg, e]))⟩
    · go_simp
      have HO10 := hid (obj_new w100 (.cells #[.slice none 0 0, .int .i64 0, .int .i64 0, .slice none 0 0] 57 (0, 0)))
      have HZ10 := hid hS.size
      have hL150 := Later.alloc w100 (.cells #[.slice none 0 0, .int .i64 0, .int .i64 0, .slice none 0 0] 57 (0, 0))
      obtain ⟨P10, hP10⟩ : ∃ P, P = w100.heap.size := ⟨_, rfl⟩
      obtain ⟨w150, hw150⟩ : ∃ W, W = w100.alloc (.cells #[.slice none 0 0, .int .i64 0, .int .i64 0, .slice none 0 0] 57 (0, 0)) := ⟨_, rfl⟩
      rw [← hP10, ← hw150] at HO10
      rw [← hP10] at HZ10
      rw [← hw150] at hL150
      rw [← hP10, ← hw150]
      clear hP10 hw150
      refine hK.out _ _ (Later.trans _ _ _ hS hL150) (fun hS => ?_)
      clear hK K
      try simp only [Act.put, List.setIfInBounds_toArray, List.set]
      clear hL150
      refine wpAnyH_ready (rs := [2, 9]) (by kernel_rfl) (by simp) (AllReadyH.cons rfl (fun K hK => ?_) (AllReadyH.cons rfl (fun K hK => ?_) AllReadyH.nil))
      · go_simp
        refine (at_any ((f, t), key) _ _ (HKV.out.1.later hS) HIO2.out).mono ?_
        rintro e w151 ⟨rfl, hL151⟩
        rw [HKEY2.out]
        replace HO10 := hid (hL151.obj HO10.out)
        refine hK.out _ _ (Later.trans _ _ _ hS hL151) (fun hS => ?_)
        clear hK K
        try simp only [Act.put, List.setIfInBounds_toArray, List.set]
        clear hL151
        refine wpAnyH_ready (rs := [4, 9]) (by kernel_rfl) (by simp) (AllReadyH.cons rfl (fun K hK => ?_) (AllReadyH.cons rfl (fun K hK => ?_) AllReadyH.nil))
        · go_simp
          refine (clone_vals key _ _ (HKV.out.1.later hS) (by have := HK8.out; omega)).mono ?_
          rintro e w152 ⟨v4, rfl, hc4, hL152⟩
          obtain ⟨a4, k4, e4⟩ := ownsRow_slice hc4.1
          subst e4
          have HK4 := hid (ownsRow_base hc4.1 hS.size)
          clear hc4
          replace HO10 := hid (hL152.obj HO10.out)
          refine hK.out _ _ (Later.trans _ _ _ hS hL152) (fun hS => ?_)
          clear hK K
          try simp only [Act.put, List.setIfInBounds_toArray, List.set]
          clear hL152
          refine wpAnyH_ready (rs := [7, 9]) (by kernel_rfl) (by simp) (AllReadyH.cons rfl (fun K hK => ?_) (AllReadyH.cons rfl (fun K hK => ?_) AllReadyH.nil))
          · go_simp
            refine (clone_bytes data _ _ (SliceOf.bytes_later HKV.out.2 hS) HDL.out).mono ?_
            rintro e w153 ⟨v7, rfl, hc7, hL153⟩
            obtain ⟨b7, m7, e7⟩ := ownsRow_slice hc7
            subst e7
            have HD7 := hid (ownsRow_base hc7 hS.size)
            clear hc7
            replace HO10 := hid (hL153.obj HO10.out)
            replace HK4 := hid (owns_at HK4.out hL153)
            refine hK.out _ _ (Later.trans _ _ _ hS hL153) (fun hS => ?_)
            clear hK K
            try simp only [Act.put, List.setIfInBounds_toArray, List.set]
            clear hL153
            refine wpAnyH_take (i := 8) (v := .agg #[.slice a4 key.length k4, .int .i64 f, .int .i64 t, .slice b7 data.length m7]) rfl (by kernel_rfl) (by kernel_rfl) (by kernel_rfl) (fun _ _ _ h => h) (Or.inl ⟨by rfl, ?_⟩) hS ?_
            · intro w _; go_simp
            try simp only [Act.put, List.setIfInBounds_toArray, List.set]
            refine wpAnyH_ready (rs := [9]) (by kernel_rfl) (by simp) (AllReadyH.cons rfl (fun K hK => ?_) AllReadyH.nil)
            · go_simp
              have HO9 := hid (obj_new w153 (.cells #[.string ⟨#[]⟩, .int .i64 0, .int .i64 0] 65 (0, 0)))
              have HZ9 := hid hS.size
              have hL154 := Later.alloc w153 (.cells #[.string ⟨#[]⟩, .int .i64 0, .int .i64 0] 65 (0, 0))
              obtain ⟨P9, hP9⟩ : ∃ P, P = w153.heap.size := ⟨_, rfl⟩
              obtain ⟨w154, hw154⟩ : ∃ W, W = w153.alloc (.cells #[.string ⟨#[]⟩, .int .i64 0, .int .i64 0] 65 (0, 0)) := ⟨_, rfl⟩
              rw [← hP9, ← hw154] at HO9
              rw [← hP9] at HZ9
              rw [← hw154] at hL154
              rw [← hP9, ← hw154]
              clear hP9 hw154
              replace HO10 := hid (hL154.obj HO10.out)
              replace HK4 := hid (owns_at HK4.out hL154)
              replace HD7 := hid (owns_at HD7.out hL154)
              refine hK.out _ _ (Later.trans _ _ _ hS hL154) (fun hS => ?_)
              clear hK K
              try simp only [Act.put, List.setIfInBounds_toArray, List.set]
              clear hL154
              have hne : P9 ≠ P10 := fun e => by have h9 := HO9.out; have h10 := HO10.out; rw [e, h10] at h9; simp at h9
              have c90 := cell_obj (i := 0) HO9.out (v := .string ⟨#[]⟩) rfl
              have c91 := cell_obj (i := 1) HO9.out (v := .int .i64 0) rfl
              have c92 := cell_obj (i := 2) HO9.out (v := .int .i64 0) rfl
              have f90 := free_obj (i := 0) HO9.out
              have f91 := free_obj (i := 1) HO9.out
              have f92 := free_obj (i := 2) HO9.out
              refine wpAnyH_ready (rs := [11]) (by kernel_rfl) (by simp) (AllReadyH.cons rfl (fun K hK => ?_) AllReadyH.nil)
              go_simp
              clear c90 c91 c92 f90 f91 f92
              obtain ⟨wA, hwA, hLA, hA9, hA10⟩ := put_place HO9.out HO10.out hne (by have := HZ9.out; exact this) f t (strB (encVals key))
              rw [← hwA]
              have HKA := hid (owns_keep HK4.out (hLA.2) (fun g hg e => own_ne HK4.out HO9.out (by decide) (by rw [hg, e])))
              have HDA := hid (owns_keep HD7.out (hLA.2) (fun g hg e => own_ne HD7.out HO9.out (by decide) (by rw [hg, e])))
              refine hK.out _ _ (hLA.1 w2 rfl hS) (fun hS => ?_)
              clear hK K hwA
              try simp only [Act.put, List.setIfInBounds_toArray, List.set]
              have c100 := cell_obj (i := 0) hA10 (v := .slice none 0 0) rfl
              have c101 := cell_obj (i := 1) hA10 (v := .int .i64 0) rfl
              have c102 := cell_obj (i := 2) hA10 (v := .int .i64 0) rfl
              have c103 := cell_obj (i := 3) hA10 (v := .slice none 0 0) rfl
              have f100 := free_obj (i := 0) hA10
              have f101 := free_obj (i := 1) hA10
              have f102 := free_obj (i := 2) hA10
              have f103 := free_obj (i := 3) hA10
              refine wpAnyH_ready (rs := [12]) (by kernel_rfl) (by simp) (AllReadyH.cons rfl (fun K hK => ?_) AllReadyH.nil)
              go_simp
              clear c100 c101 c102 c103 f100 f101 f102 f103
              obtain ⟨wB, hwB, hLB, hB10, hB9⟩ := put_cell hA10 hA9 (Ne.symm hne) HZ10.out f t (.slice a4 key.length k4) (.slice b7 data.length m7)
              rw [← hwB]
              refine hK.out _ _ (hLB.1 w2 rfl hS) (fun hS => ?_)
              clear hK K hwB
              try simp only [Act.put, List.setIfInBounds_toArray, List.set]
              refine wpAnyH_done (by kernel_rfl) ?_ _
              refine Meet.mk' HR1.out rfl ?_
              exact ⟨P9, P10, a4, k4, b7, m7, rfl, rfl, hS, hB9, hB10, HZ9.out, HZ10.out, owns_keep HKA.out hLB.2 (fun g hg e => own_ne HKA.out hA10 (by decide) (by rw [hg, e])), owns_keep HDA.out hLB.2 (fun g hg e => own_ne HDA.out hA10 (by decide) (by rw [hg, e]))⟩
          · go_simp
            have HO9 := hid (obj_new w152 (.cells #[.string ⟨#[]⟩, .int .i64 0, .int .i64 0] 65 (0, 0)))
            have HZ9 := hid hS.size
            have hL155 := Later.alloc w152 (.cells #[.string ⟨#[]⟩, .int .i64 0, .int .i64 0] 65 (0, 0))
            obtain ⟨P9, hP9⟩ : ∃ P, P = w152.heap.size := ⟨_, rfl⟩
            obtain ⟨w155, hw155⟩ : ∃ W, W = w152.alloc (.cells #[.string ⟨#[]⟩, .int .i64 0, .int .i64 0] 65 (0, 0)) := ⟨_, rfl⟩
            rw [← hP9, ← hw155] at HO9
            rw [← hP9] at HZ9
            rw [← hw155] at hL155
            rw [← hP9, ← hw155]
            clear hP9 hw155
            replace HO10 := hid (hL155.obj HO10.out)
            replace HK4 := hid (owns_at HK4.out hL155)
            refine hK.out _ _ (Later.trans _ _ _ hS hL155) (fun hS => ?_)
            clear hK K
            try simp only [Act.put, List.setIfInBounds_toArray, List.set]
            clear hL155
            refine wpAnyH_ready (rs := [7]) (by kernel_rfl) (by simp) (AllReadyH.cons rfl (fun K hK => ?_) AllReadyH.nil)
            · go_simp
              refine (clone_bytes data _ _ (SliceOf.bytes_later HKV.out.2 hS) HDL.out).mono ?_
              rintro e w156 ⟨v7, rfl, hc7, hL156⟩
              obtain ⟨b7, m7, e7⟩ := ownsRow_slice hc7
              subst e7
              have HD7 := hid (ownsRow_base hc7 hS.size)
              clear hc7
              replace HO10 := hid (hL156.obj HO10.out)
              replace HK4 := hid (owns_at HK4.out hL156)
              replace HO9 := hid (hL156.obj HO9.out)
              refine hK.out _ _ (Later.trans _ _ _ hS hL156) (fun hS => ?_)
              clear hK K
              try simp only [Act.put, List.setIfInBounds_toArray, List.set]
              clear hL156
              refine wpAnyH_take (i := 8) (v := .agg #[.slice a4 key.length k4, .int .i64 f, .int .i64 t, .slice b7 data.length m7]) rfl (by kernel_rfl) (by kernel_rfl) (by kernel_rfl) (fun _ _ _ h => h) (Or.inl ⟨by rfl, ?_⟩) hS ?_
              · intro w _; go_simp
              try simp only [Act.put, List.setIfInBounds_toArray, List.set]
              have hne : P9 ≠ P10 := fun e => by have h9 := HO9.out; have h10 := HO10.out; rw [e, h10] at h9; simp at h9
              have c90 := cell_obj (i := 0) HO9.out (v := .string ⟨#[]⟩) rfl
              have c91 := cell_obj (i := 1) HO9.out (v := .int .i64 0) rfl
              have c92 := cell_obj (i := 2) HO9.out (v := .int .i64 0) rfl
              have f90 := free_obj (i := 0) HO9.out
              have f91 := free_obj (i := 1) HO9.out
              have f92 := free_obj (i := 2) HO9.out
              refine wpAnyH_ready (rs := [11]) (by kernel_rfl) (by simp) (AllReadyH.cons rfl (fun K hK => ?_) AllReadyH.nil)
              go_simp
              clear c90 c91 c92 f90 f91 f92
              obtain ⟨wA, hwA, hLA, hA9, hA10⟩ := put_place HO9.out HO10.out hne (by have := HZ9.out; exact this) f t (strB (encVals key))
              rw [← hwA]
              have HKA := hid (owns_keep HK4.out (hLA.2) (fun g hg e => own_ne HK4.out HO9.out (by decide) (by rw [hg, e])))
              have HDA := hid (owns_keep HD7.out (hLA.2) (fun g hg e => own_ne HD7.out HO9.out (by decide) (by rw [hg, e])))
              refine hK.out _ _ (hLA.1 w2 rfl hS) (fun hS => ?_)
              clear hK K hwA
              try simp only [Act.put, List.setIfInBounds_toArray, List.set]
              have c100 := cell_obj (i := 0) hA10 (v := .slice none 0 0) rfl
              have c101 := cell_obj (i := 1) hA10 (v := .int .i64 0) rfl
              have c102 := cell_obj (i := 2) hA10 (v := .int .i64 0) rfl
              have c103 := cell_obj (i := 3) hA10 (v := .slice none 0 0) rfl
              have f100 := free_obj (i := 0) hA10
              have f101 := free_obj (i := 1) hA10
              have f102 := free_obj (i := 2) hA10
              have f103 := free_obj (i := 3) hA10
              refine wpAnyH_ready (rs := [12]) (by kernel_rfl) (by simp) (AllReadyH.cons rfl (fun K hK => ?_) AllReadyH.nil)
              go_simp
              clear c100 c101 c102 c103 f100 f101 f102 f103
              obtain ⟨wB, hwB, hLB, hB10, hB9⟩ := put_cell hA10 hA9 (Ne.symm hne) HZ10.out f t (.slice a4 key.length k4) (.slice b7 data.length m7)
              rw [← hwB]
              refine hK.out _ _ (hLB.1 w2 rfl hS) (fun hS => ?_)
              clear hK K hwB
              try simp only [Act.put, List.setIfInBounds_toArray, List.set]
              refine wpAnyH_done (by kernel_rfl) ?_ _
              refine Meet.mk' HR1.out rfl ?_
              exact ⟨P9, P10, a4, k4, b7, m7, rfl, rfl, hS, hB9, hB10, HZ9.out, HZ10.out, owns_keep HKA.out hLB.2 (fun g hg e => own_ne HKA.out hA10 (by decide) (by rw [hg, e])), owns_keep HDA.out hLB.2 (fun g hg e => own_ne HDA.out hA10 (by decide) (by rw [hg, e]))⟩
        · go_simp
          have HO9 := hid (obj_new w151 (.cells #[.string ⟨#[]⟩, .int .i64 0, .int .i64 0] 65 (0, 0)))
          have HZ9 := hid hS.size
          have hL157 := Later.alloc w151 (.cells #[.string ⟨#[]⟩, .int .i64 0, .int .i64 0] 65 (0, 0))
          obtain ⟨P9, hP9⟩ : ∃ P, P = w151.heap.size := ⟨_, rfl⟩
          obtain ⟨w157, hw157⟩ : ∃ W, W = w151.alloc (.cells #[.string ⟨#[]⟩, .int .i64 0, .int .i64 0] 65 (0, 0)) := ⟨_, rfl⟩
          rw [← hP9, ← hw157] at HO9
          rw [← hP9] at HZ9
          rw [← hw157] at hL157
          rw [← hP9, ← hw157]
          clear hP9 hw157
          replace HO10 := hid (hL157.obj HO10.out)
          refine hK.out _ _ (Later.trans _ _ _ hS hL157) (fun hS => ?_)
          clear hK K
          try simp only [Act.put, List.setIfInBounds_toArray, List.set]
          clear hL157
          refine wpAnyH_ready (rs := [4]) (by kernel_rfl) (by simp) (AllReadyH.cons rfl (fun K hK => ?_) AllReadyH.nil)
          · go_simp
            refine (clone_vals key _ _ (HKV.out.1.later hS) (by have := HK8.out; omega)).mono ?_
            rintro e w158 ⟨v4, rfl, hc4, hL158⟩
            obtain ⟨a4, k4, e4⟩ := ownsRow_slice hc4.1
            subst e4
            have HK4 := hid (ownsRow_base hc4.1 hS.size)
            clear hc4
            replace HO10 := hid (hL158.obj HO10.out)
            replace HO9 := hid (hL158.obj HO9.out)
            refine hK.out _ _ (Later.trans _ _ _ hS hL158) (fun hS => ?_)
            clear hK K
            try simp only [Act.put, List.setIfInBounds_toArray, List.set]
            clear hL158
            refine wpAnyH_ready (rs := [7]) (by kernel_rfl) (by simp) (AllReadyH.cons rfl (fun K hK => ?_) AllReadyH.nil)
            · go_simp
              refine (clone_bytes data _ _ (SliceOf.bytes_later HKV.out.2 hS) HDL.out).mono ?_
              rintro e w159 ⟨v7, rfl, hc7, hL159⟩
              obtain ⟨b7, m7, e7⟩ := ownsRow_slice hc7
              subst e7
              have HD7 := hid (ownsRow_base hc7 hS.size)
              clear hc7
              replace HO10 := hid (hL159.obj HO10.out)
              replace HO9 := hid (hL159.obj HO9.out)
              replace HK4 := hid (owns_at HK4.out hL159)
              refine hK.out _ _ (Later.trans _ _ _ hS hL159) (fun hS => ?_)
              clear hK K
              try simp only [Act.put, List.setIfInBounds_toArray, List.set]
              clear hL159
              refine wpAnyH_take (i := 8) (v := .agg #[.slice a4 key.length k4, .int .i64 f, .int .i64 t, .slice b7 data.length m7]) rfl (by kernel_rfl) (by kernel_rfl) (by kernel_rfl) (fun _ _ _ h => h) (Or.inl ⟨by rfl, ?_⟩) hS ?_
              · intro w _; go_simp
              try simp only [Act.put, List.setIfInBounds_toArray, List.set]
              have hne : P9 ≠ P10 := fun e => by have h9 := HO9.out; have h10 := HO10.out; rw [e, h10] at h9; simp at h9
              have c90 := cell_obj (i := 0) HO9.out (v := .string ⟨#[]⟩) rfl
              have c91 := cell_obj (i := 1) HO9.out (v := .int .i64 0) rfl
              have c92 := cell_obj (i := 2) HO9.out (v := .int .i64 0) rfl
              have f90 := free_obj (i := 0) HO9.out
              have f91 := free_obj (i := 1) HO9.out
              have f92 := free_obj (i := 2) HO9.out
              refine wpAnyH_ready (rs := [11]) (by kernel_rfl) (by simp) (AllReadyH.cons rfl (fun K hK => ?_) AllReadyH.nil)
              go_simp
              clear c90 c91 c92 f90 f91 f92
              obtain ⟨wA, hwA, hLA, hA9, hA10⟩ := put_place HO9.out HO10.out hne (by have := HZ9.out; exact this) f t (strB (encVals key))
              rw [← hwA]
              have HKA := hid (owns_keep HK4.out (hLA.2) (fun g hg e => own_ne HK4.out HO9.out (by decide) (by rw [hg, e])))
              have HDA := hid (owns_keep HD7.out (hLA.2) (fun g hg e => own_ne HD7.out HO9.out (by decide) (by rw [hg, e])))
              refine hK.out _ _ (hLA.1 w2 rfl hS) (fun hS => ?_)
              clear hK K hwA
              try simp only [Act.put, List.setIfInBounds_toArray, List.set]
              have c100 := cell_obj (i := 0) hA10 (v := .slice none 0 0) rfl
              have c101 := cell_obj (i := 1) hA10 (v := .int .i64 0) rfl
              have c102 := cell_obj (i := 2) hA10 (v := .int .i64 0) rfl
              have c103 := cell_obj (i := 3) hA10 (v := .slice none 0 0) rfl
              have f100 := free_obj (i := 0) hA10
              have f101 := free_obj (i := 1) hA10
              have f102 := free_obj (i := 2) hA10
              have f103 := free_obj (i := 3) hA10
              refine wpAnyH_ready (rs := [12]) (by kernel_rfl) (by simp) (AllReadyH.cons rfl (fun K hK => ?_) AllReadyH.nil)
              go_simp
              clear c100 c101 c102 c103 f100 f101 f102 f103
              obtain ⟨wB, hwB, hLB, hB10, hB9⟩ := put_cell hA10 hA9 (Ne.symm hne) HZ10.out f t (.slice a4 key.length k4) (.slice b7 data.length m7)
              rw [← hwB]
              refine hK.out _ _ (hLB.1 w2 rfl hS) (fun hS => ?_)
              clear hK K hwB
              try simp only [Act.put, List.setIfInBounds_toArray, List.set]
              refine wpAnyH_done (by kernel_rfl) ?_ _
              refine Meet.mk' HR1.out rfl ?_
              exact ⟨P9, P10, a4, k4, b7, m7, rfl, rfl, hS, hB9, hB10, HZ9.out, HZ10.out, owns_keep HKA.out hLB.2 (fun g hg e => own_ne HKA.out hA10 (by decide) (by rw [hg, e])), owns_keep HDA.out hLB.2 (fun g hg e => own_ne HDA.out hA10 (by decide) (by rw [hg, e]))⟩
      · go_simp
        have HO9 := hid (obj_new w150 (.cells #[.string ⟨#[]⟩, .int .i64 0, .int .i64 0] 65 (0, 0)))
        have HZ9 := hid hS.size
        have hL160 := Later.alloc w150 (.cells #[.string ⟨#[]⟩, .int .i64 0, .int .i64 0] 65 (0, 0))
        obtain ⟨P9, hP9⟩ : ∃ P, P = w150.heap.size := ⟨_, rfl⟩
        obtain ⟨w160, hw160⟩ : ∃ W, W = w150.alloc (.cells #[.string ⟨#[]⟩, .int .i64 0, .int .i64 0] 65 (0, 0)) := ⟨_, rfl⟩
        rw [← hP9, ← hw160] at HO9
        rw [← hP9] at HZ9
        rw [← hw160] at hL160
        rw [← hP9, ← hw160]
        clear hP9 hw160
        replace HO10 := hid (hL160.obj HO10.out)
        refine hK.out _ _ (Later.trans _ _ _ hS hL160) (fun hS => ?_)
        clear hK K
        try simp only [Act.put, List.setIfInBounds_toArray, List.set]
        clear hL160
        refine wpAnyH_ready (rs := [2]) (by kernel_rfl) (by simp) (AllReadyH.cons rfl (fun K hK => ?_) AllReadyH.nil)
        · go_simp
          refine (at_any ((f, t), key) _ _ (HKV.out.1.later hS) HIO2.out).mono ?_
          rintro e w161 ⟨rfl, hL161⟩
          rw [HKEY2.out]
          replace HO10 := hid (hL161.obj HO10.out)
          replace HO9 := hid (hL161.obj HO9.out)
          refine hK.out _ _ (Later.trans _ _ _ hS hL161) (fun hS => ?_)
          clear hK K
          try simp only [Act.put, List.setIfInBounds_toArray, List.set]
          clear hL161
          refine wpAnyH_ready (rs := [4]) (by kernel_rfl) (by simp) (AllReadyH.cons rfl (fun K hK => ?_) AllReadyH.nil)
          · go_simp
            refine (clone_vals key _ _ (HKV.out.1.later hS) (by have := HK8.out; omega)).mono ?_
            rintro e w162 ⟨v4, rfl, hc4, hL162⟩
            obtain ⟨a4, k4, e4⟩ := ownsRow_slice hc4.1
            subst e4
            have HK4 := hid (ownsRow_base hc4.1 hS.size)
            clear hc4
            replace HO10 := hid (hL162.obj HO10.out)
            replace HO9 := hid (hL162.obj HO9.out)
            refine hK.out _ _ (Later.trans _ _ _ hS hL162) (fun hS => ?_)
            clear hK K
            try simp only [Act.put, List.setIfInBounds_toArray, List.set]
            clear hL162
            refine wpAnyH_ready (rs := [7]) (by kernel_rfl) (by simp) (AllReadyH.cons rfl (fun K hK => ?_) AllReadyH.nil)
            · go_simp
              refine (clone_bytes data _ _ (SliceOf.bytes_later HKV.out.2 hS) HDL.out).mono ?_
              rintro e w163 ⟨v7, rfl, hc7, hL163⟩
              obtain ⟨b7, m7, e7⟩ := ownsRow_slice hc7
              subst e7
              have HD7 := hid (ownsRow_base hc7 hS.size)
              clear hc7
              replace HO10 := hid (hL163.obj HO10.out)
              replace HO9 := hid (hL163.obj HO9.out)
              replace HK4 := hid (owns_at HK4.out hL163)
              refine hK.out _ _ (Later.trans _ _ _ hS hL163) (fun hS => ?_)
              clear hK K
              try simp only [Act.put, List.setIfInBounds_toArray, List.set]
              clear hL163
              refine wpAnyH_take (i := 8) (v := .agg #[.slice a4 key.length k4, .int .i64 f, .int .i64 t, .slice b7 data.length m7]) rfl (by kernel_rfl) (by kernel_rfl) (by kernel_rfl) (fun _ _ _ h => h) (Or.inl ⟨by rfl, ?_⟩) hS ?_
              · intro w _; go_simp
              try simp only [Act.put, List.setIfInBounds_toArray, List.set]
              have hne : P9 ≠ P10 := fun e => by have h9 := HO9.out; have h10 := HO10.out; rw [e, h10] at h9; simp at h9
              have c90 := cell_obj (i := 0) HO9.out (v := .string ⟨#[]⟩) rfl
              have c91 := cell_obj (i := 1) HO9.out (v := .int .i64 0) rfl
              have c92 := cell_obj (i := 2) HO9.out (v := .int .i64 0) rfl
              have f90 := free_obj (i := 0) HO9.out
              have f91 := free_obj (i := 1) HO9.out
              have f92 := free_obj (i := 2) HO9.out
              refine wpAnyH_ready (rs := [11]) (by kernel_rfl) (by simp) (AllReadyH.cons rfl (fun K hK => ?_) AllReadyH.nil)
              go_simp
              clear c90 c91 c92 f90 f91 f92
              obtain ⟨wA, hwA, hLA, hA9, hA10⟩ := put_place HO9.out HO10.out hne (by have := HZ9.out; exact this) f t (strB (encVals key))
              rw [← hwA]
              have HKA := hid (owns_keep HK4.out (hLA.2) (fun g hg e => own_ne HK4.out HO9.out (by decide) (by rw [hg, e])))
              have HDA := hid (owns_keep HD7.out (hLA.2) (fun g hg e => own_ne HD7.out HO9.out (by decide) (by rw [hg, e])))
              refine hK.out _ _ (hLA.1 w2 rfl hS) (fun hS => ?_)
              clear hK K hwA
              try simp only [Act.put, List.setIfInBounds_toArray, List.set]
              have c100 := cell_obj (i := 0) hA10 (v := .slice none 0 0) rfl
              have c101 := cell_obj (i := 1) hA10 (v := .int .i64 0) rfl
              have c102 := cell_obj (i := 2) hA10 (v := .int .i64 0) rfl
              have c103 := cell_obj (i := 3) hA10 (v := .slice none 0 0) rfl
              have f100 := free_obj (i := 0) hA10
              have f101 := free_obj (i := 1) hA10
              have f102 := free_obj (i := 2) hA10
              have f103 := free_obj (i := 3) hA10
              refine wpAnyH_ready (rs := [12]) (by kernel_rfl) (by simp) (AllReadyH.cons rfl (fun K hK => ?_) AllReadyH.nil)
              go_simp
              clear c100 c101 c102 c103 f100 f101 f102 f103
              obtain ⟨wB, hwB, hLB, hB10, hB9⟩ := put_cell hA10 hA9 (Ne.symm hne) HZ10.out f t (.slice a4 key.length k4) (.slice b7 data.length m7)
              rw [← hwB]
              refine hK.out _ _ (hLB.1 w2 rfl hS) (fun hS => ?_)
              clear hK K hwB
              try simp only [Act.put, List.setIfInBounds_toArray, List.set]
              refine wpAnyH_done (by kernel_rfl) ?_ _
              refine Meet.mk' HR1.out rfl ?_
              exact ⟨P9, P10, a4, k4, b7, m7, rfl, rfl, hS, hB9, hB10, HZ9.out, HZ10.out, owns_keep HKA.out hLB.2 (fun g hg e => own_ne HKA.out hA10 (by decide) (by rw [hg, e])), owns_keep HDA.out hLB.2 (fun g hg e => own_ne HDA.out hA10 (by decide) (by rw [hg, e]))⟩
  intro us1 w5 hrel
  obtain ⟨P9, P10, a4, k4, b7, m7, h9, h10, hL5, ho9, ho10, z9, z10, hk5, hd5⟩ := hrel
  simp only [frameOf, Nat.reduceAdd, h9, h10]
  have Hh9 := hid h9; clear h9
  have Hh10 := hid h10; clear h10
  have HL5 := hid (Later.trans _ _ _ HL2.out hL5)
  have HO9 := hid ho9; have HO10 := hid ho10; have HZ := hid (And.intro z9 z10); have HK5 := hid hk5; have HD5 := hid hd5
  have hfull : weightL L ≤ 67108864 := HH.out.st.full
  have HB : Hid ((C.weight : Int) ≤ 140737488400000) := hid (by have := HWT.out; have := HDL.out; have := HK8.out; omega)
  have s3 := cell_obj (i := 3) (HL5.out.obj HH.out.obj) (v := .int .i64 (weightL L)) rfl
  have q0 := cell_obj (i := 0) ho10 (v := .slice a4 key.length k4) rfl
  have q1 := cell_obj (i := 1) ho10 (v := .int .i64 f) rfl
  have q2 := cell_obj (i := 2) ho10 (v := .int .i64 t) rfl
  have q3 := cell_obj (i := 3) ho10 (v := .slice b7 data.length m7) rfl
  obtain ⟨cw, hcw⟩ : ∃ cw : Nat, cw = C.weight := ⟨_, rfl⟩
  have HCW := hid hcw
  rw [← hcw] at HWT HB
  obtain ⟨wl, hwl⟩ : ∃ wl : Nat, wl = weightL L := ⟨_, rfl⟩
  have HWL := hid hwl
  rw [← hwl] at s3 hfull
  have hsum : (wl : Int) + cw ≤ 9223372036854775807 := by have := HB.out; omega
  have hsum0 : (0 : Int) ≤ wl := by omega
  have hsum1 : (0 : Int) ≤ cw := by omega
  clear hL5 ho9 ho10 z9 z10 hk5 hd5 hfull hcw hwl x0 x1
  go_upto_region 4 with (fail)
  refine wp_region_lex (by kernel_rfl) (by kernel_rfl) Later Later.refl Later.trans (kinds [(5, fun v _ => v = .int .i64 (cw : Int))]) (kinds_still (by simp +contextual)) ?_
  simp only [numbered, Nat.reduceAdd]
  refine LexS.out ?_
  iterate 5
    first
    | (refine LexS.skip rfl ?_; simp only [Act.put, List.setIfInBounds_toArray, List.set])
    | (refine LexS.one' rfl rfl ?_
       apply Exists.intro
       refine ⟨fun w hR hF => ?_, ?_⟩
       · have hP := hR
         repeat (first | replace hP := Later.of_drew hP | replace hP := Later.of_drewN hP | replace hP := Later.of_alloc hP)
         have hcs := hR.cells
         have zs3 := hP.cell s3
         have zq0 := hP.cell q0
         have zq1 := hP.cell q1
         have zq2 := hP.cell q2
         have zq3 := hP.cell q3
         clear hR hF hP
         go_simp
         first | done | rfl
       simp only [Act.put, List.setIfInBounds_toArray, List.set])
  refine LexS.anyEq rfl rfl (fun w hR hF => ?_) ?_
  · have hP := hR
    repeat (first | replace hP := Later.of_drew hP | replace hP := Later.of_drewN hP | replace hP := Later.of_alloc hP)
    have hcs := hR.cells
    clear hF hR
    unfold Runs
    go_simp
    unfold Yield
    refine (weight_any a4 b7 key.length k4 data.length m7 f t _ (by have := HK8.out; omega) HDL.out).mono ?_
    rintro e w' ⟨rfl, hL⟩
    exact ⟨_, rfl, hL, (by rw [HWT.out])⟩
  simp only [Act.put, List.setIfInBounds_toArray, List.set]
  iterate 2
    first
    | (refine LexS.skip rfl ?_; simp only [Act.put, List.setIfInBounds_toArray, List.set])
    | (refine LexS.one' rfl rfl ?_
       apply Exists.intro
       refine ⟨fun w hR hF => ?_, ?_⟩
       · have hP := hR
         repeat (first | replace hP := Later.of_drew hP | replace hP := Later.of_drewN hP | replace hP := Later.of_alloc hP)
         have hcs := hR.cells
         clear hR hF hP
         go_simp
         first | done | rfl
       simp only [Act.put, List.setIfInBounds_toArray, List.set])
  refine LexS.nil ?_
  intro w6 hR6 hF9
  clear hF9
  repeat (first | replace hR6 := Later.of_drew hR6 | replace hR6 := Later.of_drewN hR6 | replace hR6 := Later.of_alloc hR6)
  have HL6 := hid (Later.trans _ _ _ HL5.out hR6)
  have HO96 := hid (hR6.obj HO9.out); have HO106 := hid (hR6.obj HO10.out); have HK6 := hid (owns_at HK5.out hR6); have HD6 := hid (owns_at HD5.out hR6)
  clear hR6 s3 q0 q1 q2 q3 HO9 HO10 HK5 HD5
  obtain ⟨la, ln, ld, lf, lt, lb, lm, le, bb, hrun, hn, hm, hw1, hw2⟩ := look_parts (HH.out.later HL6.out) HIO.out
  rw [HKEY.out] at hrun
  rw [← HCW.out, ← HWL.out] at hw1
  rw [← HWL.out] at hw2
  have HRUN := hid hrun; have HN := hid hn; have HM := hid hm; have HW1 := hid hw1; have HW2 := hid hw2
  have s2 := cell_obj (i := 2) (HL6.out.obj HH.out.obj) (v := .map (some M)) rfl
  have y0 := cell_obj (i := 0) HO96.out (v := .string (strB (encVals key))) rfl
  have y1 := cell_obj (i := 1) HO96.out (v := .int .i64 f) rfl
  have y2 := cell_obj (i := 2) HO96.out (v := .int .i64 t) rfl
  clear hrun hn hm hw1 hw2
  go_upto_region 5 with (fail)
  refine wp_region_held_drew (S := fun W => Later w6 W) (by kernel_rfl) (Later.drew w6) (fun hS => ?_)
  obtain ⟨w60, hw60⟩ : ∃ W, W = w6.drew := ⟨_, rfl⟩
  rw [← hw60] at hS ⊢
  clear hw60
  refine wpAnyH_take (i := 0) (v := .pointer (some ⟨S, 0, none⟩)) rfl (by kernel_rfl) (by kernel_rfl) (by kernel_rfl) (fun _ _ _ h => h) (Or.inl ⟨by rfl, ?_⟩) hS ?_
  · intro w hS'
    clear hS hS'
    go_simp
  try simp only [Act.put, List.setIfInBounds_toArray, List.set]
  refine wpAnyH_take (i := 1) (v := .pointer (some ⟨S, 0, none⟩)) rfl (by kernel_rfl) (by kernel_rfl) (by kernel_rfl) (fun _ _ _ h => h) (Or.inl ⟨by rfl, ?_⟩) hS ?_
  · intro w hS'
    have zf0 := hS'.cell s2
    clear hS hS'
    go_simp
  try simp only [Act.put, List.setIfInBounds_toArray, List.set]
  refine wpAnyH_take (i := 2) (v := .pointer (some ⟨S, 2, none⟩)) rfl (by kernel_rfl) (by kernel_rfl) (by kernel_rfl) (fun _ _ _ h => h) (Or.inl ⟨by rfl, ?_⟩) hS ?_
  · intro w hS'
    have zf0 := hS'.cell s2
    clear hS hS'
    go_simp
  try simp only [Act.put, List.setIfInBounds_toArray, List.set]
  refine wpAnyH_take (i := 3) (v := .map (some M)) rfl (by kernel_rfl) (by kernel_rfl) (by kernel_rfl) (fun _ _ _ h => h) (Or.inl ⟨by rfl, ?_⟩) hS ?_
  · intro w hS'
    have zf0 := hS'.cell s2
    clear hS hS'
    go_simp
  try simp only [Act.put, List.setIfInBounds_toArray, List.set]
  refine wpAnyH_take (i := 4) (v := .agg #[.string (strB (encVals key)), .int .i64 f, .int .i64 t]) rfl (by kernel_rfl) (by kernel_rfl) (by kernel_rfl) (fun _ _ _ h => h) (Or.inl ⟨by rfl, ?_⟩) hS ?_
  · intro w hS'
    have zf0 := hS'.cell y0
    have zf1 := hS'.cell y1
    have zf2 := hS'.cell y2
    clear hS hS'
    go_simp
  try simp only [Act.put, List.setIfInBounds_toArray, List.set]
  refine wpAnyH_take (i := 5) (v := .tuple #[.agg #[.slice la ln ld, .int .i64 lf, .int .i64 lt, .slice lb lm le], .bool bb]) rfl (by kernel_rfl) (by kernel_rfl) (by kernel_rfl) (fun _ _ _ h => h) (Or.inl ⟨by rfl, ?_⟩) hS ?_
  · intro w hS'
    have zf0 := HRUN.out _ hS'
    clear hS hS'
    go_simp
  try simp only [Act.put, List.setIfInBounds_toArray, List.set]
  refine wpAnyH_take (i := 6) (v := .tuple #[.agg #[.slice la ln ld, .int .i64 lf, .int .i64 lt, .slice lb lm le], .bool bb]) rfl (by kernel_rfl) (by kernel_rfl) (by kernel_rfl) (fun _ _ _ h => h) (Or.inl ⟨by rfl, ?_⟩) hS ?_
  · intro w hS'
    clear hS hS'
    go_simp
  try simp only [Act.put, List.setIfInBounds_toArray, List.set]
  refine wpAnyH_take (i := 7) (v := .agg #[.slice la ln ld, .int .i64 lf, .int .i64 lt, .slice lb lm le]) rfl (by kernel_rfl) (by kernel_rfl) (by kernel_rfl) (fun _ _ _ h => h) (Or.inl ⟨by rfl, ?_⟩) hS ?_
  · intro w hS'
    clear hS hS'
    go_simp
  try simp only [Act.put, List.setIfInBounds_toArray, List.set]
  refine wpAnyH_take (i := 8) (v := .bool bb) rfl (by kernel_rfl) (by kernel_rfl) (by kernel_rfl) (fun _ _ _ h => h) (Or.inl ⟨by rfl, ?_⟩) hS ?_
  · intro w hS'
    clear hS hS'
    go_simp
  try simp only [Act.put, List.setIfInBounds_toArray, List.set]
  refine wpAnyH_ready (rs := [9]) (by kernel_rfl) (by simp) (AllReadyH.cons rfl (fun K hK => ?_) AllReadyH.nil)
  go_simp
  obtain ⟨P12, hP12⟩ : ∃ P, P = w60.heap.size := ⟨_, rfl⟩
  obtain ⟨w61, hw61⟩ : ∃ W, W = w60.alloc (.cells #[.slice none 0 0, .int .i64 0, .int .i64 0, .slice none 0 0] 57 (0, 0)) := ⟨_, rfl⟩
  have o12 : w61.heap[P12]? = some (.cells #[.slice none 0 0, .int .i64 0, .int .i64 0, .slice none 0 0] 57 (0, 0)) := by rw [hw61, hP12]; exact obj_new _ _
  have hL61 : Later w60 w61 := by rw [hw61]; exact Later.alloc _ _
  have z12 : w6.heap.size ≤ P12 := by rw [hP12]; exact hS.size
  rw [← hP12, ← hw61]
  clear hP12 hw61
  refine hK.out _ _ (Later.trans _ _ _ hS hL61) (fun hS => ?_)
  clear hK K hL61
  try simp only [Act.put, List.setIfInBounds_toArray, List.set]
  have hne12 : P12 ≠ P9 := by have := (Array.getElem?_eq_some_iff.1 HO96.out).1; omega
  obtain ⟨w7, hw7, hLB, hB12, hB9⟩ := put_cell o12 (hS.obj HO96.out) hne12 z12 lf lt (.slice la ln ld) (.slice lb lm le)
  have c0 := cell_obj (i := 0) o12 (v := .slice none 0 0) rfl
  have c1 := cell_obj (i := 1) o12 (v := .int .i64 0) rfl
  have c2 := cell_obj (i := 2) o12 (v := .int .i64 0) rfl
  have c3 := cell_obj (i := 3) o12 (v := .slice none 0 0) rfl
  have f0 := free_obj (i := 0) o12
  have f1 := free_obj (i := 1) o12
  have f2 := free_obj (i := 2) o12
  have f3 := free_obj (i := 3) o12
  have HW7 := hid hw7
  have HB12 := hid hB12
  have hS7 := hLB.1 w6 rfl hS
  clear hw7 hLB hB12 hB9 hne12 z12 s2 y0 y1 y2
  refine wpAnyH_ready (rs := [10]) (by kernel_rfl) (by simp) (AllReadyH.cons rfl (fun K hK => ?_) AllReadyH.nil)
  go_simp
  clear c0 c1 c2 c3 f0 f1 f2 f3
  rw [← HW7.out]
  refine hK.out _ _ hS7 (fun hS => ?_)
  clear hK K HW7 o12 hS7
  try simp only [Act.put, List.setIfInBounds_toArray, List.set]
  refine wpAnyH_ready (rs := [11]) (by kernel_rfl) (by simp) (AllReadyH.cons rfl (fun K hK => ?_) AllReadyH.nil)
  go_simp
  refine hK.out _ _ hS (fun hS => ?_)
  clear hK K
  try simp only [Act.put, List.setIfInBounds_toArray, List.set]
  refine wpAnyH_done (by kernel_rfl) ?_ _
  have HL67 := hid hS
  clear hS
  have p0 := cell_obj (i := 0) HB12.out (v := .slice la ln ld) rfl
  have p1 := cell_obj (i := 1) HB12.out (v := .int .i64 lf) rfl
  have p2 := cell_obj (i := 2) HB12.out (v := .int .i64 lt) rfl
  have p3 := cell_obj (i := 3) HB12.out (v := .slice lb lm le) rfl
  obtain ⟨nw, hnw⟩ : ∃ nw : Nat, nw = weightL (insC C L) := ⟨_, rfl⟩
  have HNW := hid hnw
  rw [← hnw] at HW1
  clear hnw
  go_upto_if 61 with (fail)
  obtain ⟨R2, hR2⟩ : ∃ RR_ : (Nat → Value) → World → Prop, RR_ = (fun us wy => us 11 = .int .i64 (nw : Int) ∧ Later w7 wy) := ⟨_, rfl⟩
  have HR2 := hid hR2; clear hR2
  refine wp_cut_frame' [false, false, false, false, false, false, false, false, false, false, false, true, false, false, false, false, false, false, false, false, false, false, false, false, false, false, false, false, false, false, false, false, false, false, false, false, false, false, false, false, false, false, false, false, false, false, false, false, false, false, false, false, false, false, false, false, false, false, false, false, false, false, true, true, true, true] R2 _ HR2.out ?_ ?_
  · cases bb with
    | false =>
      have hq : (wl : Int) + cw = nw := by have := HW1.out; simp only [Bool.false_eq_true, if_false] at this; omega
      have HQ := hid hq
      clear hq
      go_wp2_with fail
      refine Meet.mk' HR2.out rfl ?_
      exact ⟨congrArg (Value.int .i64) ((IntWalk.i64_in _ (by omega)).trans HQ.out), Later.refl _⟩
    | true =>
      have hq : (wl : Int) + cw - (lm + 64 * ln + 32) = nw := by have := HW1.out; simp only [if_true] at this; omega
      have HQ := hid hq
      have hr1 : (wl : Int) + cw - (lm + 64 * ln + 32) ≤ 9223372036854775807 := by omega
      have hr0 : (0 : Int) ≤ (wl : Int) + cw - (lm + 64 * ln + 32) := by omega
      clear hq
      go_wp2_with fail
      refine (weight_any la lb ln ld lm le lf lt _ (by have := HN.out; omega) (by have := HM.out; omega)).mono ?_
      rintro e w8 ⟨rfl, hL8⟩
      have HL8 := hid hL8
      clear hL8
      go_wp2_with fail
      refine Meet.mk' HR2.out rfl ?_
      exact ⟨congrArg (Value.int .i64) HQ.out, HL8.out⟩
  intro us2 w8 hrel
  obtain ⟨h11, hL8⟩ := hrel
  simp only [frameOf, Nat.reduceAdd, h11]
  have Hh11 := hid h11; clear h11
  have HL78 := hid (Later.trans _ _ _ HL67.out hL8)
  have HL8 := hid (Later.trans _ _ _ HL6.out HL78.out)
  clear hL8 p0 p1 p2 p3 hsum hsum0 hsum1
  by_cases hfl : (67108864 : Int) < nw
  · have HFL := hid hfl
    clear hfl
    have hfl := HFL.out
    go_upto_region 8 with (fail)
    go_wp2_with fail
    go_ret
    exact putWith_err (putErr_5 HYES.out (by rw [← HNW.out]; have := HFL.out; omega)) (by decide) ⟨rfl, HL8.out⟩
  have HFL := hid hfl
  have HO9 := hid (HL78.out.obj HO96.out); have HO10 := hid (HL78.out.obj HO106.out)
  have HKX := hid (owns_at HK6.out HL78.out); have HDX := hid (owns_at HD6.out HL78.out)
  go_upto_region 10 with (fail)
  clear hfl
  obtain ⟨w9, hw9⟩ : ∃ W, W = w8.drew := ⟨_, rfl⟩
  have hL9 : Later w8 w9 := by rw [hw9]; exact Later.drew _
  have HL9 := hid (Later.trans _ _ _ HL8.out hL9)
  have HO99 := hid (hL9.obj HO9.out); have HO109 := hid (hL9.obj HO10.out)
  have HKY := hid (owns_at HKX.out hL9); have HDY := hid (owns_at HDX.out hL9)
  have HS9 := hid (HL9.out.obj HH.out.obj)
  have hMlt := HH.out.map.lt
  have hSlt := HH.out.lt
  have hz := HZ.out
  have hz2 := HL2.out.size
  have hP9 : P9 ≠ M ∧ P10 ≠ M ∧ P9 ≠ S ∧ P10 ≠ S := ⟨by omega, by omega, by omega, by omega⟩
  have hmap9 : CellsMap (fun b => V b ∧ b < w.heap.size ∨ w.heap.size ≤ b) w9 M L := (HH.out.map.mono fun b hb hl => .inl ⟨hb, hl⟩).later HL9.out
  have hu : CellV (fun b => V b ∧ b < w.heap.size ∨ w.heap.size ≤ b) w9 (.agg #[.slice a4 key.length k4, .int .i64 f, .int .i64 t, .slice b7 data.length m7]) C := by
    rw [HC.out]
    exact ⟨_, _, rfl, (owned_vals HKY.out).map fun b o x hb hx => ⟨.inr (by omega), hx⟩, (owned_bytes HDY.out).map fun b o x hb hx => ⟨.inr (by omega), hx⟩⟩
  obtain ⟨v0, st, wE, wF, e1, e2, hmF, hk1, hk2⟩ := hmap9.entry HH.out.st.sorted HH.out.ids (by have := HH.out.len; unfold maxLen; omega) HIO.out hu (by rintro (⟨h, -⟩ | h); exact HH.out.vM h; omega)
  rw [HKEY.out] at e1
  simp only [goInt] at e1 e2
  have HHM := hid hmF; have HHK := hid hk2; have HP9 := hid hP9
  have hSM := HH.out.ne
  have hS1 : (∃ z : Int, w9.heap[S]? = some (.cells #[.int .i64 lo, .int .i64 hi, .map (some M), .int .i64 z] 62 (0, 0))) ∧ w9.heap[P9]? = some (.cells #[.string (strB (encVals key)), .int .i64 f, .int .i64 t] 65 (0, 0)) ∧ w9.heap[P10]? = some (.cells #[.slice a4 key.length k4, .int .i64 f, .int .i64 t, .slice b7 data.length m7] 57 (0, 0)) := ⟨⟨_, HS9.out⟩, HO99.out, HO109.out⟩
  have HSE : Hid ((∃ z : Int, wE.heap[S]? = some (.cells #[.int .i64 lo, .int .i64 hi, .map (some M), .int .i64 z] 62 (0, 0))) ∧ wE.heap[P9]? = some (.cells #[.string (strB (encVals key)), .int .i64 f, .int .i64 t] 65 (0, 0)) ∧ wE.heap[P10]? = some (.cells #[.slice a4 key.length k4, .int .i64 f, .int .i64 t, .slice b7 data.length m7] 57 (0, 0))) := hid ⟨⟨_, hk1.obj hSM HS9.out⟩, hk1.obj hP9.1 HO99.out, hk1.obj hP9.2.1 HO109.out⟩
  have HSF : Hid (wF.heap[S]? = some (.cells #[.int .i64 lo, .int .i64 hi, .map (some M), .int .i64 (weightL L)] 62 (0, 0)) ∧ wF.heap[P9]? = some (.cells #[.string (strB (encVals key)), .int .i64 f, .int .i64 t] 65 (0, 0)) ∧ wF.heap[P10]? = some (.cells #[.slice a4 key.length k4, .int .i64 f, .int .i64 t, .slice b7 data.length m7] 57 (0, 0))) := hid ⟨hk2.obj hSM HS9.out, hk2.obj hP9.1 HO99.out, hk2.obj hP9.2.1 HO109.out⟩
  have HE1 := hid e1; have HE2 := hid e2
  clear hL9 hMlt hSlt hz hz2 hP9 hmap9 hu e1 e2 hmF hk1 hk2 hSM
  refine wp_region_held_drew (S := fun W => (∃ z : Int, W.heap[S]? = some (.cells #[.int .i64 lo, .int .i64 hi, .map (some M), .int .i64 z] 62 (0, 0))) ∧ W.heap[P9]? = some (.cells #[.string (strB (encVals key)), .int .i64 f, .int .i64 t] 65 (0, 0)) ∧ W.heap[P10]? = some (.cells #[.slice a4 key.length k4, .int .i64 f, .int .i64 t, .slice b7 data.length m7] 57 (0, 0))) (by kernel_rfl) (by rw [← hw9]; exact hS1) (fun hS => ?_)
  rw [← hw9] at hS ⊢
  clear hw9 hS1
  refine wpAnyH_take (i := 0) (v := .pointer (some ⟨S, 0, none⟩)) rfl (by kernel_rfl) (by kernel_rfl) (by kernel_rfl) (fun _ _ _ h => h) (Or.inl ⟨by rfl, ?_⟩) hS ?_
  · intro w hS'
    clear hS hS'
    go_simp
  try simp only [Act.put, List.setIfInBounds_toArray, List.set]
  refine wpAnyH_take (i := 1) (v := .pointer (some ⟨S, 0, none⟩)) rfl (by kernel_rfl) (by kernel_rfl) (by kernel_rfl) (fun _ _ _ h => h) (Or.inl ⟨by rfl, ?_⟩) hS ?_
  · intro w hS'
    clear hS hS'
    go_simp
  try simp only [Act.put, List.setIfInBounds_toArray, List.set]
  refine wpAnyH_take (i := 2) (v := .pointer (some ⟨S, 2, none⟩)) rfl (by kernel_rfl) (by kernel_rfl) (by kernel_rfl) (fun _ _ _ h => h) (Or.inl ⟨by rfl, ?_⟩) hS ?_
  · intro w hS'
    clear hS hS'
    go_simp
  try simp only [Act.put, List.setIfInBounds_toArray, List.set]
  refine wpAnyH_take (i := 3) (v := .map (some M)) rfl (by kernel_rfl) (by kernel_rfl) (by kernel_rfl) (fun _ _ _ h => h) (Or.inl ⟨by rfl, ?_⟩) hS ?_
  · intro w hS'
    have zf0 := (hS'.1.elim fun z h => cell_obj (i := 2) h (v := .map (some M)) rfl)
    clear hS hS'
    go_simp
  try simp only [Act.put, List.setIfInBounds_toArray, List.set]
  refine wpAnyH_take (i := 4) (v := .agg #[.string (strB (encVals key)), .int .i64 f, .int .i64 t]) rfl (by kernel_rfl) (by kernel_rfl) (by kernel_rfl) (fun _ _ _ h => h) (Or.inl ⟨by rfl, ?_⟩) hS ?_
  · intro w hS'
    have zf0 := (cell_obj (i := 0) hS'.2.1 (v := .string (strB (encVals key))) rfl)
    have zf1 := (cell_obj (i := 1) hS'.2.1 (v := .int .i64 f) rfl)
    have zf2 := (cell_obj (i := 2) hS'.2.1 (v := .int .i64 t) rfl)
    clear hS hS'
    go_simp
  try simp only [Act.put, List.setIfInBounds_toArray, List.set]
  refine wpAnyH_take (i := 5) (v := .pointer (some ⟨S, 0, none⟩)) rfl (by kernel_rfl) (by kernel_rfl) (by kernel_rfl) (fun _ _ _ h => h) (Or.inl ⟨by rfl, ?_⟩) hS ?_
  · intro w hS'
    clear hS hS'
    go_simp
  try simp only [Act.put, List.setIfInBounds_toArray, List.set]
  refine wpAnyH_take (i := 6) (v := .agg #[.slice a4 key.length k4, .int .i64 f, .int .i64 t, .slice b7 data.length m7]) rfl (by kernel_rfl) (by kernel_rfl) (by kernel_rfl) (fun _ _ _ h => h) (Or.inl ⟨by rfl, ?_⟩) hS ?_
  · intro w hS'
    have zf0 := (cell_obj (i := 0) hS'.2.2 (v := .slice a4 key.length k4) rfl)
    have zf1 := (cell_obj (i := 1) hS'.2.2 (v := .int .i64 f) rfl)
    have zf2 := (cell_obj (i := 2) hS'.2.2 (v := .int .i64 t) rfl)
    have zf3 := (cell_obj (i := 3) hS'.2.2 (v := .slice b7 data.length m7) rfl)
    clear hS hS'
    go_simp
  try simp only [Act.put, List.setIfInBounds_toArray, List.set]
  refine wpAnyH_take (i := 7) (v := .int .i64 (nw : Int)) rfl (by kernel_rfl) (by kernel_rfl) (by kernel_rfl) (fun _ _ _ h => h) (Or.inl ⟨by rfl, ?_⟩) hS ?_
  · intro w hS'
    clear hS hS'
    go_simp
  try simp only [Act.put, List.setIfInBounds_toArray, List.set]
  have e1 := HE1.out
  refine wpAnyH_ready (rs := [8]) (by kernel_rfl) (by simp) (AllReadyH.cons rfl (fun K hK => ?_) AllReadyH.nil)
  go_simp
  refine hK.out _ _ HSE.out (fun hS => ?_)
  clear hK K e1
  try simp only [Act.put, List.setIfInBounds_toArray, List.set]
  refine wpAnyH_ready (rs := [9]) (by kernel_rfl) (by simp) (AllReadyH.cons rfl (fun K hK => ?_) AllReadyH.nil)
  go_simp
  refine hK.out _ _ hS (fun hS => ?_)
  clear hK K
  try simp only [Act.put, List.setIfInBounds_toArray, List.set]
  have e2 := HE2.out
  refine wpAnyH_ready (rs := [10]) (by kernel_rfl) (by simp) (AllReadyH.cons rfl (fun K hK => ?_) AllReadyH.nil)
  go_simp
  refine hK.out _ _ ⟨⟨_, HSF.out.1⟩, HSF.out.2⟩ (fun hS => ?_)
  clear hK K e2
  try simp only [Act.put, List.setIfInBounds_toArray, List.set]
  refine wpAnyH_ready (rs := [11]) (by kernel_rfl) (by simp) (AllReadyH.cons rfl (fun K hK => ?_) AllReadyH.nil)
  go_simp
  refine hK.out _ _ hS (fun hS => ?_)
  clear hK K
  try simp only [Act.put, List.setIfInBounds_toArray, List.set]
  refine wpAnyH_ready (rs := [12]) (by kernel_rfl) (by simp) (AllReadyH.cons rfl (fun K hK => ?_) AllReadyH.nil)
  go_simp
  refine hK.out _ _ hS (fun hS => ?_)
  clear hK K
  try simp only [Act.put, List.setIfInBounds_toArray, List.set]
  have s3 := cell_obj (i := 3) HSF.out.1 (v := .int .i64 (weightL L)) rfl
  have g3 := free_obj (i := 3) HSF.out.1
  refine wpAnyH_ready (rs := [13]) (by kernel_rfl) (by simp) (AllReadyH.cons rfl (fun K hK => ?_) AllReadyH.nil)
  go_simp
  clear s3 g3
  have hset : Keeps (fun b => b ≠ S) wF (wF.setCell ⟨S, 3, none⟩ (.int .i64 nw)) := (Keeps.refl _ _).setCell (.inl (by simp)) _
  have hobj := obj_setCell (i := 3) HSF.out.1 (.int .i64 nw)
  simp only [List.setIfInBounds_toArray, List.set] at hobj
  have HOBJ := hid hobj; have HSET := hid hset
  refine hK.out _ _ ⟨⟨_, hobj⟩, hset.obj HP9.out.2.2.1 HSF.out.2.1, hset.obj HP9.out.2.2.2 HSF.out.2.2⟩ (fun hS => ?_)
  clear hK K hset hobj
  try simp only [Act.put, List.setIfInBounds_toArray, List.set]
  refine wpAnyH_done (by kernel_rfl) ?_ _
  clear hS
  go_wp2_with fail
  go_ret
  have hful : weightL (insC C L) ≤ 67108864 := by rw [← HNW.out]; have := HFL.out; omega
  have h0 := putErr_0 HYES.out hful
  refine putWith_ok h0 ⟨rfl, ?_, fun V' v1 v2 v3 v4 => ?_⟩
  · exact ((HL9.out.keeps _).trans (HHK.out.mono fun b _ hb => hb.2)).trans (HSET.out.mono fun b _ hb => hb.1)
  · have hsz := HSET.out.size
    have hm := HHM.out.kept HSET.out (Ne.symm HH.out.ne) (fun b hb _ e => by rcases hb with ⟨hb, -⟩ | hb; exact HH.out.vS (e ▸ hb); have := HH.out.lt; omega)
    have hsz2 : w.heap.size ≤ wF.heap.size := Nat.le_trans HL9.out.size HHK.out.size
    refine ⟨by rw [← HNW.out]; exact HOBJ.out, hm.mono fun b hb hl => ?_, HH.out.st.ins h0, fun x hx => ?_, v3, v4, HH.out.ne, HH.out.rng⟩
    · rcases hb with ⟨hb, hb2⟩ | hb
      · exact v1 b hb hb2
      · exact v2 b hb hl
    · rcases (insC_mem HH.out.st.sorted).1 hx with rfl | ⟨hx, -⟩
      · rw [HC.out]; exact HGC.out
      · exact HH.out.ok x hx
theorem put_any (c : CellP) (kv dv : Value) (w : World) (h : StAt V w S M lo hi L) (hk : IsVals w kv c.key) (hd : IsBytes w dv c.data) (hg : ∀ x ∈ c.key, ValOk x) (ht : PowTab w) (hdl : c.data.length ≤ 140737488355328) :
    Calls Tryz.prog 6 #[.pointer (some ⟨S, 0, none⟩), kv, .agg #[.int .i64 c.win.1, .int .i64 c.win.2], dv] w (PutWith V w S M lo hi L c) := by
  cases hy : (ownsK lo hi c.key && winOk c.win) with
  | true => exact put_yes c kv dv w h hk hd hg ht hdl hy
  | false =>
    refine (put_no c kv dv w h hk hg ht hy).mono ?_
    intro e w' hp
    exact putWith_err (putErr_4 hy) (by decide) hp
end
end Go.Proofs.YtgcnchmnciihnaaGreatDoor
