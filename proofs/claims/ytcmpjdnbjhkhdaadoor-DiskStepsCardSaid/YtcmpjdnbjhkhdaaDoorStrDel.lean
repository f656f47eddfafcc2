/-
  PROVED HERE: the contracts of slices.IndexFunc and slices.DeleteFunc at texts, with disk's test for a name.
-/
import Derived.Test.YtcmpjdnbjhkhdaaDoorStrOwn
import Derived.Test.YtcmpjdnbjhkhdaaDoorFrame
namespace Go.Proofs.YtcmpjdnbjhkhdaaDoor
set_option linter.unusedSimpArgs false
set_option linter.unusedVariables false
open Go.RowKit

def remF (X : Nat) : Value := .func (.func 55) #[] #[.pointer (some ⟨X, 0, none⟩)]
def otherB (x n : List UInt8) : Bool := !eqB n x
theorem rem_any (n x : List UInt8) (X : Nat) (w : World) (hX : w.cell? ⟨X, 0, none⟩ = some (.string (strB x))) : Calls Tryd.prog 55 #[.string (strB n), .pointer (some ⟨X, 0, none⟩)] w fun e w' => e = .returned (.bool (eqB n x)) ∧ w' = w := by
  have hlt := cell_lt hX
  go_enter Tryd.func55, Tryd.ntmps55
  go_wp2_with fail
  go_ret
  exact ⟨rfl, rfl⟩
def IdxSTo (w : World) (x : List UInt8) (l : List (List UInt8)) (e : Ending) (w' : World) : Prop :=
  Later w w' ∧ ((e = .returned (.int .i64 (-1)) ∧ ∀ j (h : j < l.length), otherB x l[j] = true) ∨ ∃ (i : Nat) (h : i < l.length), e = .returned (.int .i64 i) ∧ otherB x l[i] = false ∧ ∀ j (h : j < i), otherB x l[j] = true)
set_option maxRecDepth 100000 in
set_option maxHeartbeats 2000000 in
theorem idx_strs (B : Nat) (x : List UInt8) (X : Nat) (a : Option Addr) (c : Nat) (l : List (List UInt8)) (w : World) (ho : OwnS B w (.slice a l.length c) l) (hX : w.cell? ⟨X, 0, none⟩ = some (.string (strB x))) :
    Calls Tryd.prog 84 #[.slice a l.length c, remF X] w (IdxSTo w x l) := by
  have hcm := ho.len
  have HO := hid ho; have HX := hid hX; have HB := hid (And.intro hcm.2.1 hcm.2.2.1)
  clear ho hX hcm
  unfold remF
  go_enter Tryd.func84, Tryd.ntmps84
  go_wp2_with fail
  obtain ⟨R1, hR1⟩ : ∃ RR_ : (Nat → Value) → World → Prop, RR_ = (fun us wx => ∃ k : Nat, us 8 = .int .i64 k ∧ k ≤ l.length ∧ Later w wx ∧ ∀ j (h : j < l.length), j < k → otherB x l[j] = true) := ⟨_, rfl⟩
  obtain ⟨mu1, hmu1⟩ : ∃ mu : (Nat → Value) → World → Nat, mu = (fun us _ => l.length - (intOf (us 8)).toNat) := ⟨_, rfl⟩
  have HR1 := hid hR1; have Hmu1 := hid hmu1; clear hR1 hmu1
  refine wp_loop_frame' [false, false, false, false, true, true, false, false, true, true, true, true, true, true, true, true, true, true, true] R1 _ mu1 HR1.out ?_ ?_
  · exact ⟨0, rfl, Nat.zero_le _, Later.refl _, fun j h h0 => by omega⟩
  intro us1 wx hrel
  obtain ⟨k, h8, hk, hL, hall⟩ := hrel
  simp only [frameOf, Nat.reduceAdd, h8]
  have Hh8 := hid h8; clear h8
  have HL := hid hL; have HK := hid hk; have HA := hid hall
  clear hL hk hall
  by_cases hlt : k < l.length
  · have HLT := hid hlt
    obtain ⟨g, rfl, -, p1, -⟩ := HO.out.at hlt
    replace p1 := HL.out.cell p1
    have hg := cell_lt p1
    have HWK : Hid (wrap64 ((k : Int) + 1) = ((k + 1 : Nat) : Int)) := hid (by have := HLT.out; have := HB.out; unfold maxLen at this; unfold wrap64; omega)
    obtain ⟨y, hy⟩ : ∃ y, l[k]'HLT.out = y := ⟨_, rfl⟩
    have HY := hid hy
    change wx.cell? ⟨g, k, none⟩ = some (.string (strB (l[k]'HLT.out))) at p1
    rw [hy] at p1
    clear hy
    have HLK : Hid (otherB x y = !eqB y x) := hid rfl
    go_wp2_with fail
    refine (rem_any y x X _ (HL.out.cell HX.out)).mono ?_
    rintro e w1 ⟨rfl, rfl⟩
    cases hb : eqB y x with
    | true =>
      have HBB : Hid (otherB x (l[k]'HLT.out) = false) := hid (by rw [HY.out, HLK.out, hb]; rfl)
      clear hb p1
      go_wp2_with fail
      go_ret
      exact ⟨HL.out, .inr ⟨k, hlt, rfl, HBB.out, fun j h => HA.out j (by omega) h⟩⟩
    | false =>
      have HBB : Hid (otherB x (l[k]'HLT.out) = true) := hid (by rw [HY.out, HLK.out, hb]; rfl)
      clear hb p1
      go_wp2_with fail
      try simp only [HWK.out]
      refine Round.mk' HR1.out Hmu1.out rfl ?_ ?_
      · refine ⟨k + 1, rfl, HLT.out, HL.out, fun j h hj => ?_⟩
        by_cases hjk : j = k
        · subst hjk; exact HBB.out
        · exact HA.out j h (by omega)
      · rw [Hh8.out]; have := HLT.out; simp [intOf, slots]; omega
  · go_wp2_with fail
    go_ret
    exact ⟨HL.out, .inl ⟨rfl, fun j h => HA.out j h (by omega)⟩⟩

def keptS (x : List UInt8) (l : List (List UInt8)) (k : Nat) : List (List UInt8) := (l.take k).filter (otherB x)
theorem keptS_succ {x : List UInt8} {l : List (List UInt8)} {k : Nat} (h : k < l.length) : keptS x l (k + 1) = if otherB x l[k] then keptS x l k ++ [l[k]] else keptS x l k := by
  unfold keptS
  rw [List.take_succ_eq_append_getElem h, List.filter_append, List.filter_cons, List.filter_nil]
  split <;> simp
theorem keptS_all (x : List UInt8) (l : List (List UInt8)) : keptS x l l.length = l.filter (otherB x) := by unfold keptS; rw [List.take_length]
theorem set_take_next {α : Type} {l : List α} {i : Nat} (h : i < l.length) (x : α) : (l.set i x).take (i + 1) = l.take i ++ [x] := by
  rw [List.take_succ_eq_append_getElem (by rw [List.length_set]; exact h), List.getElem_set_self, List.take_set_of_le (Nat.le_refl _)]
/-- what is left lies in the same block. -/
def DelSTo (w : World) (B : Nat) (a : Option Addr) (c : Nat) (x : List UInt8) (l : List (List UInt8)) (e : Ending) (w' : World) : Prop :=
  e = .returned (.slice a (l.filter (otherB x)).length c) ∧ OwnS B w' (.slice a (l.filter (otherB x)).length c) (l.filter (otherB x)) ∧ Keeps (fun b => some b ≠ (Value.slice a l.length c).ownBlock) w w'
set_option maxRecDepth 100000 in
set_option maxHeartbeats 4000000 in
theorem delete_strs (B : Nat) (x : List UInt8) (X : Nat) (a : Option Addr) (c : Nat) (l : List (List UInt8)) (w : World) (h : OwnS B w (.slice a l.length c) l) (hX : w.cell? ⟨X, 0, none⟩ = some (.string (strB x))) (hXg : some X ≠ (Value.slice a l.length c).ownBlock) :
    Calls Tryd.prog 54 #[.slice a l.length c, remF X] w (DelSTo w B a c x l) := by
  have HO := hid h; have HX := hid hX; have HXG := hid hXg
  have HLL : Hid (l.length ≤ 9223372036854775807) := hid (by have h1 := h.len; have h2 := h1.2.1; have h3 := h1.2.2.1; unfold maxLen at h3; omega)
  clear h hX hXg
  unfold remF
  go_enter Tryd.func54, Tryd.ntmps54
  go_wp2_with fail
  refine (idx_strs B x X a c l _ HO.out HX.out).mono ?_
  rintro e w1 ⟨hL1, ⟨rfl, hall⟩ | ⟨i0, hi0, rfl, hno, hall⟩⟩
  · have HF : Hid (l.filter (otherB x) = l) := hid (by
      rw [List.filter_eq_self]
      intro y hy
      obtain ⟨j, hj, rfl⟩ := List.getElem_of_mem hy
      exact hall j hj)
    have HL1 := hid hL1
    clear hall hL1
    go_wp2_with fail
    go_ret
    refine ⟨?_, ?_, HL1.out.keeps _⟩
    · rw [HF.out]; rfl
    · rw [HF.out]; exact HO.out.later HL1.out
  · obtain ⟨g, rfl, hgB, -, -⟩ := HO.out.at hi0
    have HGB := hid hgB
    have HKP : Hid (keptS x l (i0 + 1) = l.take i0) := hid (by
      rw [keptS_succ hi0, hno]
      unfold keptS
      simp only [Bool.false_eq_true, if_false]
      rw [List.filter_eq_self]
      intro y hy
      obtain ⟨j, hj, rfl⟩ := List.getElem_of_mem hy
      rw [List.getElem_take]
      exact hall j (by rw [List.length_take] at hj; omega))
    have HXG2 : Hid (X ≠ g) := hid (fun e => HXG.out (by rw [e]; rfl))
    have HO1 := hid (HO.out.later hL1)
    have HX1 := hid (hL1.cell HX.out)
    have HXX := hid HX.out
    have HL1 := hid hL1
    have HI0 := hid hi0
    have HC := hid HO.out.len
    have hne : ((i0 : Int) == -1) = false := beq_eq_false_iff_ne.2 (by omega)
    have hw0 : wrap64 ((i0 : Int) + 1) = ((i0 + 1 : Nat) : Int) := by have := HI0.out; have := HLL.out; unfold wrap64; omega
    clear hgB hno hall hL1 hi0 HO HX
    go_wp2_with fail
    try simp only [hw0]
    clear hw0 hne
    obtain ⟨R1, hR1⟩ : ∃ RR_ : (Nat → Value) → World → Prop, RR_ = (fun us wx => ∃ (i j : Nat) (N : List (List UInt8)), us 5 = .int .i64 i ∧ us 6 = .int .i64 j ∧ i < j ∧ j ≤ l.length ∧ N.length = l.length ∧ OwnS B wx (.slice (some ⟨g, 0, none⟩) l.length c) N ∧ N.take i = keptS x l j ∧ N.drop j = l.drop j ∧ Keeps (fun b => b ≠ g) w wx) := ⟨_, rfl⟩
    obtain ⟨mu1, hmu1⟩ : ∃ mu : (Nat → Value) → World → Nat, mu = (fun us _ => l.length - (intOf (us 6)).toNat) := ⟨_, rfl⟩
    have HR1 := hid hR1; have Hmu1 := hid hmu1; clear hR1 hmu1
    refine wp_loop_frame' [false, false, false, false, false, true, true, true, false, false, false, false, false, false, false, false, true, true, true, true, true, true, true, true, true, true, true, true, true, true, true, true, true, true, true, true] R1 _ mu1 HR1.out ?_ ?_
    · exact ⟨i0, i0 + 1, l, rfl, rfl, by omega, HI0.out, rfl, HO1.out, HKP.out.symm, rfl, HL1.out.keeps _⟩
    clear HO1 HKP HI0 HX1
    intro us1 wx hrel
    obtain ⟨i, j, N, h5, h6, hij, hjl, hnl, ho, ht, hd, hk⟩ := hrel
    simp only [frameOf, Nat.reduceAdd, h5, h6]
    have Hh5 := hid h5; clear h5
    have Hh6 := hid h6; clear h6
    have HO := hid ho; have HK := hid hk; have HT := hid ht; have HD := hid hd; have HIJ := hid hij; have HJL := hid hjl; have HNL := hid hnl
    clear ho hk ht hd hij hjl hnl
    by_cases hlt : j < l.length
    · have HLT := hid hlt
      have hjn : j < N.length := by rw [HNL.out]; exact hlt
      have hin : i < N.length := by have := HIJ.out; omega
      obtain ⟨g', eg, -, p1, -⟩ := HO.out.at hjn
      simp only [Option.some.injEq, Addr.mk.injEq, and_true] at eg
      subst eg
      obtain ⟨g', eg, -, q1, z1⟩ := HO.out.at hin
      simp only [Option.some.injEq, Addr.mk.injEq, and_true] at eg
      subst eg
      have hnj : N[j]'hjn = l[j]'hlt := by
        have e1 : (N.drop j)[0]? = (l.drop j)[0]? := by rw [HD.out]
        rw [List.getElem?_drop, List.getElem?_drop, Nat.add_zero, List.getElem?_eq_getElem hjn, List.getElem?_eq_getElem hlt] at e1
        exact Option.some.inj e1
      have HIN := hid hin
      obtain ⟨y, hy⟩ : ∃ y, l[j]'hlt = y := ⟨_, rfl⟩
      have HKS : Hid (keptS x l (j + 1) = if otherB x y = true then keptS x l j ++ [y] else keptS x l j) := hid (by rw [keptS_succ hlt, hy])
      rw [hnj, hy] at p1
      have hil : i < l.length := by have := HIJ.out; omega
      have hg := cell_lt p1
      have HXW := hid (HK.out.cell (p := ⟨X, 0, none⟩) HXG2.out (show w.cell? ⟨X, 0, none⟩ = some (.string (strB x)) from HXX.out))
      clear hy hnj
      have hw5 : wrap64 ((i : Int) + 1) = ((i + 1 : Nat) : Int) := by have := HLL.out; unfold wrap64; omega
      have hw6 : wrap64 ((j : Int) + 1) = ((j + 1 : Nat) : Int) := by have := HLT.out; have := HLL.out; unfold wrap64; omega
      have HW5 := hid hw5; have HW6 := hid hw6
      clear hw5 hw6
      go_wp2_with fail
      refine (rem_any y x X _ HXW.out).mono ?_
      rintro e w3 ⟨rfl, rfl⟩
      cases hb : eqB y x with
      | false =>
        have HB2 : Hid (keptS x l (j + 1) = keptS x l j ++ [y]) := hid (by rw [HKS.out]; unfold otherB; rw [hb]; rfl)
        clear hb
        go_upto_region 10 with (fail)
        obtain ⟨w4, hw4⟩ : ∃ w4, w4 = w3.setCell ⟨g, i, none⟩ (.string (strB y)) := ⟨_, rfl⟩
        rw [← hw4]
        have HO4 : Hid (OwnS B w4 (.slice (some ⟨g, 0, none⟩) l.length c) (N.set i y)) := hid (by rw [hw4]; exact HO.out.set HNL.out.symm y)
        have HK4 : Hid (Keeps (fun b => b ≠ g) w w4) := hid (by rw [hw4]; exact HK.out.setCell (p := ⟨g, i, none⟩) (.inl (fun h => h rfl)) _)
        clear hw4 q1 z1 p1 HO HK
        go_wp2_with fail
        try simp only [HW5.out, HW6.out]
        refine Round.mk' HR1.out Hmu1.out rfl ?_ ?_
        · refine ⟨i + 1, j + 1, N.set i y, rfl, rfl, by have := HIJ.out; omega, HLT.out, by rw [List.length_set]; exact HNL.out, HO4.out, ?_, ?_, HK4.out⟩
          · rw [set_take_next HIN.out, HT.out, HB2.out]
          · rw [List.drop_set_of_lt (by have := HIJ.out; omega), ← List.drop_drop, ← List.drop_drop, HD.out]
        · rw [Hh6.out]; have := HLT.out; simp [intOf, slots]; omega
      | true =>
        have HB2 : Hid (keptS x l (j + 1) = keptS x l j) := hid (by rw [HKS.out]; unfold otherB; rw [hb]; rfl)
        clear hb q1 z1 p1
        go_wp2_with fail
        try simp only [HW6.out]
        refine Round.mk' HR1.out Hmu1.out rfl ?_ ?_
        · refine ⟨i, j + 1, N, rfl, rfl, by have := HIJ.out; omega, HLT.out, HNL.out, HO.out, by rw [HB2.out]; exact HT.out, ?_, HK.out⟩
          rw [← List.drop_drop, ← List.drop_drop, HD.out]
        · rw [Hh6.out]; have := HLT.out; simp [intOf, slots]; omega
    · have hje : j = l.length := by have := HJL.out; omega
      have HF : Hid (l.filter (otherB x) = N.take i) := hid (by rw [HT.out, hje, keptS_all])
      have HFL : Hid ((l.filter (otherB x)).length = i) := hid (by rw [HF.out, List.length_take, HNL.out]; have := HIJ.out; omega)
      have hic : i ≤ l.length := by have := HIJ.out; omega
      have hic2 : i ≤ c := by have := HC.out.2.1; omega
      have hic3 : ¬ c - i = 0 := by have := HC.out.2.1; have := HIJ.out; omega
      have hic4 : ¬ c ≤ i := by have := HC.out.2.1; have := HIJ.out; omega
      obtain ⟨g', cur, T, eg, -, hobj, hcells⟩ := HO.out.obj (by rw [HNL.out]; have := HIJ.out; omega)
      simp only [Option.some.injEq, Addr.mk.injEq, and_true] at eg
      subst eg
      have hclr := run_clear_str (w := wx) 58 0 9 Tryd.underlying58 Tryd.zeroValue9 g i (l.length - i) (c - i) (by have := HIJ.out; omega)
        (fun q hq => by
          have hlt : i + q < (strCells N).length := by rw [strCells_length, HNL.out]; omega
          rw [hcells (i + q) _ (List.getElem?_eq_getElem hlt)]
          rfl)
        (fun q _ => free_obj hobj)
      clear hobj hcells
      go_upto_region 12 with (fail)
      obtain ⟨vs, hvs⟩ : ∃ vs, vs = (Builtin.zeroCells #[.string ⟨#[]⟩] (l.length - i)).toList := ⟨_, rfl⟩
      obtain ⟨w5, hw5⟩ : ∃ w5, w5 = wx.setCells g i vs := ⟨_, rfl⟩
      rw [← hvs, ← hw5]
      have HO5 : Hid (OwnS B w5 (.slice (some ⟨g, 0, none⟩) (l.filter (otherB x)).length c) (l.filter (otherB x))) := hid (by
        have h := HO.out.cut (i := i) (by rw [HNL.out]; exact hic)
        rw [← HF.out] at h
        unfold OwnS at h ⊢
        rw [HFL.out] at h ⊢
        rw [hw5]
        exact owns_cells vs i wx (by omega) h)
      have HK5 : Hid (Keeps (fun b => b ≠ g) w w5) := hid (by
        rw [hw5]
        exact HK.out.trans (keeps_cells vs i wx))
      clear hw5 hvs hclr HO HK
      go_wp2_with fail
      go_ret
      refine ⟨?_, HO5.out, HK5.out.mono fun b _ hb e => hb (by rw [e]; rfl)⟩
      rw [HFL.out]
      rfl
end Go.Proofs.YtcmpjdnbjhkhdaaDoor
