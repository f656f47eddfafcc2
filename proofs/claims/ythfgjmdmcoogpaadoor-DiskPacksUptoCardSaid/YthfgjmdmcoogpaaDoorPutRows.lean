/-
  PROVED HERE: the contracts of wire.PutValue, PutRows.
-/
import Derived.Test.YthfgjmdmcoogpaaDoorPut
namespace Go.Proofs.YthfgjmdmcoogpaaDoor
set_option linter.unusedSimpArgs false
set_option linter.unusedVariables false
open Go.RowKit

set_option maxRecDepth 100000 in
set_option maxHeartbeats 2000000 in
theorem put_value (B : Nat) (v : Value) (l : List UInt8) (x : Val) (w : World) (hx : ValOk x) (hown : w.ownsRow B 5 1 v l.length (byteCells l)) (hB : B ≤ w.heap.size) (hsz : (l ++ encVal x).length + 30 ≤ 70368744177664) :
    Calls Tryd.prog 81 #[v, x.v] w (PutTo 5 w B v (l ++ encVal x)) := by
  obtain ⟨ii, hi, hz0, hz1, hz2⟩ := info_parts infoU8
  have HI := hid hi; have HZ0 := hid hz0; have HZ1 := hid hz1; have HZ2 := hid hz2; clear hi hz0 hz1 hz2
  have HO := hid hown
  obtain ⟨hk, hn, ht⟩ := hx
  have hk' : -9223372036854775808 ≤ x.k ∧ x.k ≤ 9223372036854775807 := by simpa [Lit.wf, IntKind.min, IntKind.max, IntKind.bits, IntKind.signed] using hk
  obtain ⟨hk1, hk2⟩ := hk'
  have HN := hid hn
  clear hown hk hn
  have hgb : ∀ g, v.ownBlock = some g → g < w.heap.size := fun g hg => (owns_block HO.out g hg).2
  have HGB := hid hgb
  clear hgb
  have hkb : IntKind.u8.wrap x.k = ((UInt8.ofNat (x.k % 256).toNat).toNat : Int) := by rw [IntKind.wrap_u8, UInt8.toNat_ofNat']; omega
  have HKB := hid hkb
  have HE : Hid (encVal x = UInt8.ofNat (x.k % 256).toNat :: (if x.k = 1 ∨ x.k = 2 then encInt x.n else if x.k = 3 then encText x.t else [])) := hid rfl
  have hsz0 : l.length + 31 ≤ 70368744177664 := by rw [HE.out, List.length_append, List.length_cons] at hsz; omega
  clear hkb
  go_enter Tryd.func81, Tryd.ntmps81
  go_wp2_with (at_builtin; go_loud (refine wpList_put_byte rfl _ _ 76 rfl B 5 ii Tryd.underlying76 HI.out HZ0.out HZ1.out HZ2.out _ l rfl (owns_later (owns_later HO.out (Later.alloc _ _)) (Later.alloc _ _)) (w.heap.size + 1) _ rfl (cell_obj (i := 0) (by simpa using obj_new (w.alloc (.cells #[.int .i64 x.k, .int .i64 x.n, .string x.t] 40)) _) rfl) _ HKB.out ?c1 ?c2 ?_))
  case c1 => omega
  case c2 => simp; omega
  intro v1 w1 hp1
  have hbx : some w.heap.size ≠ v.ownBlock := fun e => by have := HGB.out _ e.symm; omega
  have hX := hp1.keep.obj (b := w.heap.size) hbx ((Later.alloc _ _).obj (obj_new _ _))
  have c0 := cell_obj (i := 0) hX rfl
  have c1 := cell_obj (i := 1) hX rfl
  have c2 := cell_obj (i := 2) hX rfl
  have HP := hid (Put.ahead (Later.trans _ _ _ (Later.alloc w _) (Later.alloc _ _)) hp1)
  clear hp1 hX hbx
  have hB1 : B ≤ w1.heap.size := Nat.le_trans hB HP.out.keep.size
  by_cases k1 : x.k = 1
  · have HE1 : Hid (encVal x = UInt8.ofNat (x.k % 256).toNat :: encInt x.n) := hid (by rw [HE.out, if_pos (.inl k1)])
    go_wp2_with fail
    refine (put_int B v1 _ x.n _ HN.out HP.out.own hB1 (by simp; omega)).mono ?_
    rintro e w2 ⟨v2, rfl, hp2⟩
    have HP2 := hid (HP.out.trans hp2)
    clear hp2
    go_wp2
    go_ret
    refine ⟨v2, rfl, ?_⟩
    have := HP2.out
    rw [List.append_assoc, List.singleton_append, ← HE1.out] at this
    exact this
  by_cases k2 : x.k = 2
  · have HE1 : Hid (encVal x = UInt8.ofNat (x.k % 256).toNat :: encInt x.n) := hid (by rw [HE.out, if_pos (.inr k2)])
    go_wp2_with fail
    refine (put_int B v1 _ x.n _ HN.out HP.out.own hB1 (by simp; omega)).mono ?_
    rintro e w2 ⟨v2, rfl, hp2⟩
    have HP2 := hid (HP.out.trans hp2)
    clear hp2
    go_wp2
    go_ret
    refine ⟨v2, rfl, ?_⟩
    have := HP2.out
    rw [List.append_assoc, List.singleton_append, ← HE1.out] at this
    exact this
  by_cases k3 : x.k = 3
  · have HE1 : Hid (encVal x = UInt8.ofNat (x.k % 256).toNat :: encText x.t) := hid (by rw [HE.out, if_neg (by omega), if_pos k3])
    have hst : l.length + 1 + x.t.size + 30 ≤ 70368744177664 := by
      have e3 : x.t.data.toList.length = x.t.size := by rw [Array.length_toList]; rfl
      rw [HE1.out] at hsz
      simp only [encText, List.length_append, List.length_cons, e3] at hsz
      omega
    go_wp2_with fail
    refine (put_text B v1 _ x.t _ HP.out.own hB1 (by simp; omega)).mono ?_
    rintro e w2 ⟨v2, rfl, hp2⟩
    have HP2 := hid (HP.out.trans hp2)
    clear hp2
    go_wp2
    go_ret
    refine ⟨v2, rfl, ?_⟩
    have := HP2.out
    rw [List.append_assoc, List.singleton_append, ← HE1.out] at this
    exact this
  · have HE1 : Hid (encVal x = [UInt8.ofNat (x.k % 256).toNat]) := hid (by rw [HE.out, if_neg (by omega), if_neg k3])
    go_wp2
    go_ret
    refine ⟨_, rfl, ?_⟩
    rw [HE1.out]
    exact HP.out

theorem encVals_at {l : List Val} {k : Nat} (h : k < l.length) : ∃ c, encVals l = encVals (l.take k) ++ (encVal l[k] ++ c) := by
  refine ⟨encVals (l.drop (k + 1)), ?_⟩
  rw [← List.append_assoc, ← encVals_take h, encVals, encVals, encVals, ← List.flatMap_append, List.take_append_drop]
theorem encRowList_at {l : List Row} {k : Nat} (h : k < l.length) : ∃ c, encRowList l = encRowList (l.take k) ++ (encRow l[k] ++ c) := by
  refine ⟨encRowList (l.drop (k + 1)), ?_⟩
  rw [← List.append_assoc, ← encRowList_take h, encRowList, encRowList, encRowList, ← List.flatMap_append, List.take_append_drop]
def RowFine (r : Row) : Prop := (Lit.int .i64 r.time).wf = true ∧ ∀ x ∈ r.vals, ValOk x

set_option maxRecDepth 100000 in
set_option maxHeartbeats 4000000 in
theorem put_rows (B : Nat) (v vr : Value) (l : List UInt8) (rows : List Row) (w : World) (S : Nat → Prop) (hr : RowsIn S w vr rows) (hS : ∀ b, S b → some b ≠ v.ownBlock ∧ b < w.heap.size) (hf : ∀ r ∈ rows, RowFine r)
    (hown : w.ownsRow B 5 1 v l.length (byteCells l)) (hB : B ≤ w.heap.size) (hsz : (l ++ encRows rows).length + 100 ≤ 70368744177664) :
    Calls Tryd.prog 42 #[v, vr] w (PutTo 5 w B v (l ++ encRows rows)) := by
  have HR := hid hr
  obtain ⟨p, c, rfl, hl, hc, -, -⟩ := hr
  have HO := hid hown; have HF := hid hf; have HS := hid hS
  clear hown hf hS
  unfold maxLen at hc
  have hlw : (Lit.int .i64 (rows.length : Int)).wf = true := by simp [Lit.wf, IntKind.min, IntKind.max, IntKind.bits, IntKind.signed]; omega
  have HLW := hid hlw
  clear hlw
  go_enter Tryd.func42, Tryd.ntmps42
  go_wp2_with fail
  refine (put_int B v l rows.length _ HLW.out HO.out hB (by simp only [List.length_append] at hsz; omega)).mono ?_
  rintro e w1 ⟨v1, rfl, hp1⟩
  have HP1 := hid hp1
  clear hp1
  go_wp2_with fail
  go_loopw [15, 0] (fun iv bv wr => ∃ (k : Nat), k ≤ rows.length ∧ iv = .int .i64 k ∧ Put 5 w B v (l ++ encInt rows.length ++ encRowList (rows.take k)) bv wr) (fun iv _ _ => rows.length - (intOf iv).toNat)
  case atStart => exact ⟨0, by omega, rfl, by simpa [encRowList] using HP1.out⟩
  case round =>
    obtain ⟨k, hk, rfl, hput⟩ := hrel
    have HP := hid hput
    clear hput
    by_cases hlt : k < rows.length
    · obtain ⟨p', c', hv', -, -, -, hel⟩ := HR.out
      simp only [Value.slice.injEq, true_and] at hv'
      obtain ⟨rfl, rfl⟩ := hv'
      obtain ⟨b, o, rfl, hSb, q0, vv, q1, hvv⟩ := hel k hlt
      replace q0 := HP.out.keep.cell (p := ⟨b, o + k * 2, none⟩) (HS.out b hSb).1 q0
      replace q1 := HP.out.keep.cell (p := ⟨b, o + k * 2 + 1, none⟩) (HS.out b hSb).1 q1
      have hfk := HF.out _ (List.getElem_mem hlt)
      have HT := hid (encRowList_take hlt)
      obtain ⟨r, hre⟩ : ∃ r, r = rows[k] := ⟨_, rfl⟩
      obtain ⟨ct, hct⟩ := encRowList_at hlt
      rw [← hre] at q0 hvv hfk hct
      have HRE := hid hre
      have hlr := congrArg List.length hct
      simp only [List.length_append, encRow] at hlr
      simp only [List.length_append, encRows] at hsz
      have HVS := hid hvv
      obtain ⟨va, vc, rfl, hvl, hvm, -⟩ := hvv
      unfold maxLen at hvm
      obtain ⟨htw, hvo⟩ := hfk
      have HTW := hid htw
      have HVO := hid hvo
      have hnw : (Lit.int .i64 (r.vals.length : Int)).wf = true := by simp [Lit.wf, IntKind.min, IntKind.max, IntKind.bits, IntKind.signed]; omega
      have HNW := hid hnw
      have hgb : ∀ g, u0.ownBlock = some g → g < wr.heap.size := fun g hg => (owns_block HP.out.own g hg).2
      have hbx : some wr.heap.size ≠ u0.ownBlock := fun e => by have := hgb _ e.symm; omega
      have HBX := hid hbx
      have hBw : B ≤ wr.heap.size := Nat.le_trans hB HP.out.keep.size
      clear hre hct htw hvo hnw hgb hbx hel
      go_wp2_with fail
      refine (put_int B u0 _ r.time _ HTW.out (owns_later HP.out.own (Later.alloc _ _)) (by simp; omega) (by simp only [List.length_append]; omega)).mono ?_
      rintro e w2 ⟨v2, rfl, hp2⟩
      have hX2 := hp2.keep.obj HBX.out (obj_new wr _)
      have HX2 := hid hX2
      have hb2 := hp2.other (by simp) HBX.out
      have HB2 := hid hb2
      have HP2 := hid (HP.out.trans (Put.ahead (Later.alloc _ _) hp2))
      have hBw2 : B ≤ w2.heap.size := Nat.le_trans hB HP2.out.keep.size
      have x1 := cell_obj (i := 1) hX2 rfl
      clear hp2 hX2 hb2 q0 q1
      go_wp2_with fail
      refine (put_int B v2 _ r.vals.length _ HNW.out HP2.out.own hBw2 (by simp only [List.length_append]; omega)).mono ?_
      rintro e w3 ⟨v3, rfl, hp3⟩
      have hX3 := hp3.keep.obj HB2.out HX2.out
      have HP3 := hid (HP2.out.trans hp3)
      replace x1 := cell_obj (i := 1) hX3 rfl
      clear hp3 hX3
      go_wp2_with fail
      go_loopw [31, 0] (fun iv bv wr => ∃ (j : Nat), j ≤ r.vals.length ∧ iv = .int .i64 j ∧ Put 5 w B v (l ++ encInt rows.length ++ encRowList (rows.take k) ++ encInt r.time ++ encInt r.vals.length ++ encVals (r.vals.take j)) bv wr) (fun iv _ _ => r.vals.length - (intOf iv).toNat)
      case atStart => exact ⟨0, by omega, rfl, by simpa [encVals] using HP3.out⟩
      case round =>
        obtain ⟨j, hj, rfl, hput⟩ := hrel
        have HPj := hid hput
        clear hput x1
        by_cases hlt2 : j < r.vals.length
        · obtain ⟨a2, c2, hv2, -, -, -, hel2⟩ := HVS.out.vals_kept HPj.out.keep fun b hb => (HS.out b hb).1
          simp only [Value.slice.injEq, true_and] at hv2
          obtain ⟨rfl, rfl⟩ := hv2
          obtain ⟨b2, o2, rfl, -, e0, e1, e2⟩ := hel2 j hlt2
          have hxo := HVO.out _ (List.getElem_mem hlt2)
          have HT2 := hid (encVals_take hlt2)
          obtain ⟨ct2, hct2⟩ := encVals_at hlt2
          have hlr2 := congrArg List.length hct2
          simp only [List.length_append] at hlr2
          generalize r.vals[j] = x at *
          have HXO := hid hxo
          clear hct2 hxo hel2
          have hBj : B ≤ wr.heap.size := Nat.le_trans hB HPj.out.keep.size
          go_wp2_with fail
          refine (put_value B u0 _ x _ HXO.out (owns_later HPj.out.own (Later.alloc _ _)) (by simp; omega) (by simp only [List.length_append]; omega)).mono ?_
          rintro e w4 ⟨v4, rfl, hp4⟩
          have HP4 := hid (HPj.out.trans (Put.ahead (Later.alloc _ _) hp4))
          clear hp4 e0 e1 e2
          go_wp2
          go_roundw
          case rel => exact ⟨j + 1, by omega, by go_num, by rw [HT2.out, ← List.append_assoc]; exact HP4.out⟩
          case measure => simp [intOf]; omega
        · obtain rfl : j = r.vals.length := by omega
          go_wp2
          go_roundw
          case rel => exact ⟨k + 1, by omega, by go_num, by
            have := HPj.out
            rw [List.take_length] at this
            rw [HT.out, ← HRE.out, encRow]
            simpa only [List.append_assoc] using this⟩
          case measure => simp [intOf]; omega
    · obtain rfl : k = rows.length := by omega
      go_wp2
      go_ret
      refine ⟨_, rfl, ?_⟩
      have := HP.out
      rw [List.take_length] at this
      rw [encRows, ← List.append_assoc]
      exact this
end Go.Proofs.YthfgjmdmcoogpaaDoor
