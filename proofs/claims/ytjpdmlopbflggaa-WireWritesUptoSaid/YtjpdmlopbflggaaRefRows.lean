/-
  PROVED HERE: the contract of the document's Rows (as bytes).
-/
import Derived.Test.YtjpdmlopbflggaaRefPut
namespace Go.Proofs.Ytjpdmlopbflggaa
open Go.RowKit

set_option maxRecDepth 100000 in
set_option maxHeartbeats 2500000 in
theorem ref_rows (vr : Value) (rows : List Row) (w : World) (hr : IsRows w vr rows) (hf : ∀ r ∈ rows, RowFine r) (hsz : (encRows rows).length + 200 ≤ 70368744177664) :
    Calls Try.prog 14 #[vr] w (NewBytes w (encRows rows)) := by
  obtain ⟨ii, hi, hz0, hz1, hz2⟩ := info_parts infoU8
  have HI := hid hi; have HZ0 := hid hz0; have HZ1 := hid hz1; have HZ2 := hid hz2; clear hi hz0 hz1 hz2
  have HR := hid hr
  obtain ⟨p, c, rfl, hl, hc, -, hel⟩ := hr
  have HEL := hid hel
  have HF := hid hf
  clear hf hel
  unfold maxLen at hc
  have HLW : Hid ((Lit.int .i64 (rows.length : Int)).wf = true) := hid (by simp [Lit.wf, IntKind.min, IntKind.max, IntKind.bits, IntKind.signed]; omega)
  go_enter Try.func14, Try.ntmps14
  go_wp2_with fail
  refine (ref_int rows.length _ HLW.out).mono ?_
  rintro e w1 ⟨v1, rfl, hp1⟩
  have HP1 := hid hp1
  clear hp1
  go_wp2_with fail
  go_loopw [4, 3] (fun iv bv wr => ∃ (k : Nat), k ≤ rows.length ∧ iv = .int .i64 k ∧ Put 5 w w.heap.size (.slice none 0 0) (encInt rows.length ++ encRowList (rows.take k)) bv wr) (fun iv _ _ => rows.length - (intOf iv).toNat)
  case atStart => exact ⟨0, by omega, rfl, by simpa [encRowList] using HP1.out⟩
  case round =>
    obtain ⟨k, hk, rfl, hput⟩ := hrel
    have HP := hid hput
    clear hput
    have hk0 : (0 : Int) ≤ k := by omega
    by_cases hlt : k < rows.length
    · have hLk := HP.out.later rfl
      obtain ⟨b, o, rfl, -, q0, vv, q1, hvv⟩ := HEL.out k hlt
      have Q0 := hid q0; have Q1 := hid q1
      replace q0 := hLk.cell q0
      replace q1 := hLk.cell q1
      have hfk := HF.out _ (List.getElem_mem hlt)
      have HT := hid (encRowList_take hlt)
      obtain ⟨r, hre⟩ : ∃ r, r = rows[k] := ⟨_, rfl⟩
      obtain ⟨ct, hct⟩ := encRowList_at hlt
      rw [← hre] at q0 hvv hfk hct
      have HRE := hid hre
      have hlr := congrArg List.length hct
      simp only [List.length_append, encRow] at hlr
      simp only [List.length_append, encRows] at hsz
      have HVS := hid hvv
      obtain ⟨va, vc, rfl, hvl, hvm, -⟩ := hvv
      unfold maxLen at hvm
      obtain ⟨htw, hvo⟩ := hfk
      have HTW := hid htw
      have HVO := hid hvo
      have HNW : Hid ((Lit.int .i64 (r.vals.length : Int)).wf = true) := hid (by simp [Lit.wf, IntKind.min, IntKind.max, IntKind.bits, IntKind.signed]; omega)
      have HLk := hid hLk
      clear hre hct htw hvo hLk
      go_wp2_with fail
      refine (ref_int r.time _ HTW.out).mono ?_
      rintro e w2 ⟨v2, rfl, hp2⟩
      have HP2 := hid hp2
      replace q0 := (hp2.later rfl).cell q0
      replace q1 := (hp2.later rfl).cell q1
      clear hp2
      go_wp2_with fail
      refine (ref_int r.vals.length _ HNW.out).mono ?_
      rintro e w3 ⟨v3, rfl, hp3⟩
      have HP3 := hid hp3
      have hL23 := hp3.later rfl
      have HL3 := hid (Later.trans _ _ _ (HP2.out.later rfl) hL23)
      have HV2 := hid ((owned_bytes HP2.out.own).bytes_later hL23)
      clear hp3 hL23 q0 q1
      have hB3 : w.heap.size ≤ w3.heap.size := Nat.le_trans HP.out.keep.size HL3.out.size
      go_wp2_with (at_builtin; go_loud (refine wpList_put_bytes rfl _ _ 30 rfl w.heap.size 5 ii Try.underlying30 HI.out HZ0.out HZ1.out HZ2.out _ (encInt rows.length ++ encRowList (rows.take k)) rfl (owns_later HP.out.own HL3.out) _ _ (encInt r.time) rfl HV2.out ?c1 ?c2 ?_))
      case c1 => simp only [List.length_append]; omega
      case c2 => omega
      intro v4 w4 hp4
      have HP4 := hid ((HP.out.behind HL3.out).trans hp4)
      have hv3 : BytesIn (fun b => w2.heap.size ≤ b) w4 v3 (encInt r.vals.length) := by
        refine (owned_bytes HP3.out.own).bytes_kept hp4.keep fun b hb => ?_
        intro e
        have := (owns_block HP.out.own b e.symm).2
        have := HP2.out.keep.size
        omega
      have HV3 := hid hv3
      clear hp4 hv3
      go_wp2_with (at_builtin; go_loud (refine wpList_put_bytes rfl _ _ 30 rfl w.heap.size 5 ii Try.underlying30 HI.out HZ0.out HZ1.out HZ2.out _ (encInt rows.length ++ (encRowList (rows.take k) ++ encInt r.time)) rfl HP4.out.own _ _ (encInt r.vals.length) rfl HV3.out ?c1 ?c2 ?_))
      case c1 => simp only [List.length_append]; omega
      case c2 => exact HP4.out.keep.size
      intro v5 w5 hp5
      have HP5 := hid (HP4.out.trans hp5)
      clear hp5
      go_wp2_with fail
      go_loopw [7, 3] (fun iv bv wr => ∃ (j : Nat), j ≤ r.vals.length ∧ iv = .int .i64 j ∧ Put 5 w w.heap.size (.slice none 0 0) (encInt rows.length ++ (encRowList (rows.take k) ++ (encInt r.time ++ (encInt r.vals.length ++ encVals (r.vals.take j))))) bv wr) (fun iv _ _ => r.vals.length - (intOf iv).toNat)
      case atStart => exact ⟨0, by omega, rfl, by simpa [encVals] using HP5.out⟩
      case round =>
        obtain ⟨j, hj, rfl, hput⟩ := hrel
        have HPj := hid hput
        clear hput
        have hj0 : (0 : Int) ≤ j := by omega
        have q1 := (HPj.out.later rfl).cell Q1.out
        by_cases hlt2 : j < r.vals.length
        · obtain ⟨a2, c2, hv2, -, -, -, hel2⟩ := HVS.out.later (HPj.out.later rfl)
          simp only [Value.slice.injEq, true_and] at hv2
          obtain ⟨rfl, rfl⟩ := hv2
          obtain ⟨b2, o2, rfl, -, e0, e1, e2⟩ := hel2 j hlt2
          have hxo := HVO.out _ (List.getElem_mem hlt2)
          have HT2 := hid (encVals_take hlt2)
          obtain ⟨ct2, hct2⟩ := encVals_at hlt2
          have hlr2 := congrArg List.length hct2
          simp only [List.length_append] at hlr2
          generalize r.vals[j] = x at *
          have HXO := hid hxo
          clear hct2 hxo hel2
          have hBj : w.heap.size ≤ wr.heap.size := HPj.out.keep.size
          go_wp2_with fail
          refine (ref_value x _ HXO.out (by omega)).mono ?_
          rintro e w6 ⟨v6, rfl, hp6⟩
          have HP6 := hid hp6
          have HL6 := hid (hp6.later rfl)
          clear hp6 e0 e1 e2 q1
          go_wp2_with (at_builtin; go_loud (refine wpList_put_bytes rfl _ _ 30 rfl w.heap.size 5 ii Try.underlying30 HI.out HZ0.out HZ1.out HZ2.out _ (encInt rows.length ++ (encRowList (rows.take k) ++ (encInt r.time ++ (encInt r.vals.length ++ encVals (r.vals.take j))))) rfl (owns_later HPj.out.own HL6.out) _ _ (encVal x) rfl (owned_bytes HP6.out.own) ?c1 ?c2 ?_))
          case c1 => simp only [List.length_append]; omega
          case c2 => have := HL6.out.size; omega
          intro v7 w7 hp7
          have HP7 := hid ((HPj.out.behind HL6.out).trans hp7)
          clear hp7
          go_wp2
          go_roundw
          case rel => exact ⟨j + 1, by omega, by go_num, by rw [HT2.out]; simpa only [List.append_assoc] using HP7.out⟩
          case measure => simp [intOf]; omega
        · obtain rfl : j = r.vals.length := by omega
          go_wp2
          go_roundw
          case rel => exact ⟨k + 1, by omega, by go_num, by
            have := HPj.out
            rw [List.take_length] at this
            rw [HT.out, ← HRE.out, encRow]
            simpa only [List.append_assoc] using this⟩
          case measure => simp [intOf]; omega
    · obtain rfl : k = rows.length := by omega
      go_wp2
      go_ret
      refine ⟨u3, rfl, ?_⟩
      have := HP.out
      rw [List.take_length] at this
      exact this
end Go.Proofs.Ytjpdmlopbflggaa
