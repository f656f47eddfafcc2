/-
  PROVED HERE: the contract of disk.Pack.
-/
import Derived.Test.YthfgjmdmcoogpaaDoorDisk
import Derived.Test.YthfgjmdmcoogpaaDoorCopy
import Derived.Test.YthfgjmdmcoogpaaDoorPutRows
namespace Go.Proofs.YthfgjmdmcoogpaaDoor
set_option linter.unusedSimpArgs false
set_option linter.unusedVariables false
open Go.RowKit

theorem put_over' {w w1 w2 : World} {e : TypeId} {s n B' : Nat} {v v' : Value} {xs : List Value} {l : List UInt8} (h : Later w w1) (ho : w1.ownsRow w.heap.size e s v n xs) (p : Put e w1 B' v l v' w2) : Later w w2 := put_over h ho (Nat.le_refl _) p
/-- the numbers of the first offsets, the parts of one. -/
def offPart (x : Off) (j : Nat) : List UInt8 := ([x.1, x.2.1, x.2.2].take j).flatMap encInt
theorem offPart_succ (x : Off) : offPart x 0 = [] ∧ offPart x 1 = offPart x 0 ++ encInt x.1 ∧ offPart x 2 = offPart x 1 ++ encInt x.2.1 ∧ offPart x 3 = offPart x 2 ++ encInt x.2.2 ∧ offPart x 3 = encOff x := by
  simp [offPart, encOff]
theorem offPart_len (x : Off) (j : Nat) : (offPart x j).length ≤ 33 := by
  have h0 := encInt_length x.1; have h1 := encInt_length x.2.1; have h2 := encInt_length x.2.2
  unfold offPart
  match j with
  | 0 => simp
  | 1 => simp; omega
  | 2 => simp; omega
  | j + 3 => simp; omega
theorem not_row {w : World} {Q : Nat} {c : Array Value} {tc e : TypeId} {base size k : Nat} {v : Value} {xs : List Value} (h : w.heap[Q]? = some (.cells c tc (0, 0))) (hte : tc ≠ e) (hr : w.ownsRow base e size v k xs) : some Q ≠ v.ownBlock := by
  rcases hr.2 with ⟨rfl, _⟩ | ⟨g, cap, cur, rfl, _, hgb, _⟩
  · simp [Value.ownBlock]
  · intro e'
    obtain rfl : Q = g := by simpa [Value.ownBlock] using e'
    rw [h] at hgb
    simp at hgb
    exact hte hgb.2
def pre1 (c : Chk) (i : Nat) : List UInt8 := encInt c.mark ++ encInt c.offs.length ++ (c.offs.take i).flatMap encOff
def pre2 (c : Chk) (i : Nat) : List UInt8 := pre1 c c.offs.length ++ encInt c.helds.length ++ (c.helds.take i).flatMap encHeld
theorem pre1_succ (c : Chk) {i : Nat} (h : i < c.offs.length) : pre1 c (i + 1) = pre1 c i ++ encOff c.offs[i] := by
  unfold pre1; rw [List.take_succ_eq_append_getElem h, List.flatMap_append]; simp [List.append_assoc]
theorem pre2_succ (c : Chk) {i : Nat} (h : i < c.helds.length) : pre2 c (i + 1) = pre2 c i ++ encHeld c.helds[i] := by
  unfold pre2; rw [List.take_succ_eq_append_getElem h, List.flatMap_append]; simp [List.append_assoc]
theorem pre2_all (c : Chk) : pre2 c c.helds.length = encChk c := by
  unfold pre2 pre1 encChk; simp [List.append_assoc]
theorem pre1_le (c : Chk) (i : Nat) (h : i ≤ c.offs.length) : (pre1 c i).length ≤ (encChk c).length := by
  have e : c.offs = c.offs.take i ++ c.offs.drop i := (List.take_append_drop i c.offs).symm
  have : (c.offs.flatMap encOff).length = ((c.offs.take i).flatMap encOff).length + ((c.offs.drop i).flatMap encOff).length := by
    conv => lhs; rw [e]
    rw [List.flatMap_append, List.length_append]
  unfold pre1 encChk
  simp only [List.length_append]
  omega
theorem pre2_le (c : Chk) (i : Nat) (h : i ≤ c.helds.length) : (pre2 c i).length ≤ (encChk c).length := by
  have e : c.helds = c.helds.take i ++ c.helds.drop i := (List.take_append_drop i c.helds).symm
  have : (c.helds.flatMap encHeld).length = ((c.helds.take i).flatMap encHeld).length + ((c.helds.drop i).flatMap encHeld).length := by
    conv => lhs; rw [e]
    rw [List.flatMap_append, List.length_append]
  unfold pre2 pre1 encChk
  simp only [List.length_append, List.take_length]
  omega

set_option maxRecDepth 100000 in
set_option maxHeartbeats 8000000 in
theorem pack_any (c : Chk) (v1 v2 : Value) (w : World) (h1 : OffsIn All w v1 c.offs) (h2 : HeldsIn All w v2 c.helds) (hm : I64 c.mark) (ho : ∀ x ∈ c.offs, OffOk x) (hh : ∀ x ∈ c.helds, HeldOk x) (hl : (encChk c).length ≤ 20000000) (hl1 : c.offs.length ≤ 1048576) (hl2 : c.helds.length ≤ 1048576) :
    Calls Tryd.prog 49 #[.agg #[.int .i64 c.mark, v1, v2]] w (SealTo w (encChk c)) := by
  obtain ⟨ii, hi, hz0, hz1, hz2⟩ := info_parts infoU8
  have HI := hid hi; have HZ0 := hid hz0; have HZ1 := hid hz1; have HZ2 := hid hz2; clear hi hz0 hz1 hz2
  have H1 := hid h1; have H2 := hid h2; have HM := hid hm; have HO := hid ho; have HH := hid hh; have HL := hid hl; have HL1 := hid hl1; have HL2 := hid hl2
  obtain ⟨a1, c1, rfl, hc1, hm1, -, -⟩ := h1
  obtain ⟨a2, c2, rfl, hc2, hm2, -, -⟩ := h2
  clear hm ho hh hl hc1 hm1 hc2 hm2 hl1 hl2
  have HW1 : Hid (I64 c.offs.length) := hid (by have := HL1.out; simp [I64, Lit.wf, IntKind.min, IntKind.max, IntKind.bits, IntKind.signed]; omega)
  have HW2 : Hid (I64 c.helds.length) := hid (by have := HL2.out; simp [I64, Lit.wf, IntKind.min, IntKind.max, IntKind.bits, IntKind.signed]; omega)
  go_enter Tryd.func49, Tryd.ntmps49
  go_wp2_with fail
  obtain ⟨X, hX⟩ : ∃ X, X = w.heap.size := ⟨_, rfl⟩
  obtain ⟨w1, hw1⟩ : ∃ w1, w1 = w.alloc (.cells #[.int .i64 c.mark, .slice a1 c.offs.length c1, .slice a2 c.helds.length c2] 104 (0, 0)) := ⟨_, rfl⟩
  have HX1 : Hid (w1.heap[X]? = some (.cells #[.int .i64 c.mark, .slice a1 c.offs.length c1, .slice a2 c.helds.length c2] 104 (0, 0))) := hid (by rw [hw1, hX]; exact obj_new _ _)
  have HLW : Hid (Later w w1) := hid (by rw [hw1]; exact Later.alloc _ _)
  rw [← hw1, ← hX]
  clear hw1 hX
  refine (put_int w1.heap.size (.slice none 0 0) [] c.mark _ HM.out ⟨rfl, .inl ⟨rfl, rfl⟩⟩ (Nat.le_refl _) (by simp)).mono ?_
  rintro e w2 ⟨va, rfl, hp2⟩
  have HP2 := hid hp2.own
  have HB2 := hid (hp2.later rfl)
  have HX2 := hid (HB2.out.obj HX1.out)
  have x1 := cell_obj (i := 1) HX2.out (v := .slice a1 c.offs.length c1) rfl
  clear hp2
  go_wp2_with fail
  refine (put_int w1.heap.size va _ c.offs.length _ HW1.out HP2.out HB2.out.size (by have := encInt_length c.mark; simp only [List.nil_append]; omega)).mono ?_
  rintro e w3 ⟨vb, rfl, hp3⟩
  have HP3 := hid hp3.own
  have HB3 := hid (put_over' HB2.out HP2.out hp3)
  have HX3 := hid (HB3.out.obj HX1.out)
  clear hp3 x1
  have x1 := cell_obj (i := 1) HX3.out (v := .slice a1 c.offs.length c1) rfl
  go_wp2_with fail
  clear x1
  obtain ⟨R1, hR1⟩ : ∃ RR_ : (Nat → Value) → World → Prop, RR_ = (fun us wx => ∃ (i : Nat) (v : Value), i ≤ c.offs.length ∧ us 22 = .int .i64 i ∧ us 4 = v ∧ wx.ownsRow w1.heap.size 5 1 v (pre1 c i).length (byteCells (pre1 c i)) ∧ Later w1 wx) := ⟨_, rfl⟩
  obtain ⟨mu1, hmu1⟩ : ∃ mu : (Nat → Value) → World → Nat, mu = (fun us _ => c.offs.length - (intOf (us 22)).toNat) := ⟨_, rfl⟩
  have HR1 := hid hR1; have Hmu1 := hid hmu1; clear hR1 hmu1
  refine wp_loop_frame' [false, false, false, false, true, false, true, false, true, false, false, false, false, false, false, false, false, false, false, false, false, false, true, true, true, true, true, true, true, true, true, true, true, true, true, true, true, true, true, true, true, true, true] R1 _ mu1 HR1.out ?_ ?_
  · exact ⟨0, vb, by omega, rfl, rfl, by simpa [pre1] using HP3.out, HB3.out⟩
  ·
    intro us1 wx hrel
    obtain ⟨i, v, hi, h22, h4, hown, hLx⟩ := hrel
    simp only [frameOf, Nat.reduceAdd, h22, h4]
    have Hh22 := hid h22; clear h22
    have Hh4 := hid h4; clear h4
    have HIN := hid hi; have HOW := hid hown; have HLX := hid hLx
    clear hi hown hLx
    by_cases hlt : i < c.offs.length
    · have hin := (H1.out.offs_later (Later.trans _ _ _ HLW.out HLX.out))
      obtain ⟨a9, c9, e9, -, -, -, hel⟩ := hin
      simp only [Value.slice.injEq] at e9
      obtain ⟨rfl, -, rfl⟩ := e9
      obtain ⟨b, o, rfl, -, q0, q1, q2⟩ := hel i hlt
      have HLT := hid hlt
      obtain ⟨x, hx⟩ : ∃ x : Off, x = c.offs[i]'hlt := ⟨_, rfl⟩
      have HXO : Hid (OffOk x) := hid (by rw [hx]; exact HO.out _ (List.getElem_mem hlt))
      have HPS : Hid (pre1 c (i + 1) = pre1 c i ++ encOff x) := hid (by rw [hx]; exact pre1_succ c hlt)
      replace q0 : wx.cell? ⟨b, o + i * 3, none⟩ = some (.int .i64 x.1) := by rw [hx]; exact q0
      replace q1 : wx.cell? ⟨b, o + i * 3 + 1, none⟩ = some (.int .i64 x.2.1) := by rw [hx]; exact q1
      replace q2 : wx.cell? ⟨b, o + i * 3 + 2, none⟩ = some (.int .i64 x.2.2) := by rw [hx]; exact q2
      obtain ⟨x0, x1, x2⟩ := x
      simp only at q0 q1 q2
      clear hel hx
      go_wp2_with fail
      obtain ⟨Q, hQ⟩ : ∃ Q, Q = wx.heap.size + 1 := ⟨_, rfl⟩
      obtain ⟨w5, hw5⟩ : ∃ w5, w5 = (wx.alloc (.cells #[.int .i64 x0, .int .i64 x1, .int .i64 x2] 154 (0, 0))).alloc (.cells #[.int .i64 x0, .int .i64 x1, .int .i64 x2] 3 (0, 0)) := ⟨_, rfl⟩
      have hL5 : Later wx w5 := by rw [hw5]; exact Later.trans _ _ _ (Later.alloc _ _) (Later.alloc _ _)
      have HQ5 : Hid (w5.heap[Q]? = some (.cells #[.int .i64 x0, .int .i64 x1, .int .i64 x2] 3 (0, 0))) := hid (by rw [hw5, hQ, ← World.size_alloc wx (.cells #[.int .i64 x0, .int .i64 x1, .int .i64 x2] 154 (0, 0))]; exact obj_new _ _)
      have HL5 := hid (Later.trans _ _ _ HLX.out hL5)
      have HOW5 := hid (own_later HOW.out hL5)
      rw [← hw5, ← hQ]
      clear hw5 hQ hL5 q0 q1 q2
      obtain ⟨R2, hR2⟩ : ∃ RR_ : (Nat → Value) → World → Prop, RR_ = (fun us wy => ∃ (j : Nat) (u : Value), j ≤ 3 ∧ us 34 = .int .i64 j ∧ us 4 = u ∧ wy.ownsRow w1.heap.size 5 1 u (pre1 c i ++ offPart (x0, x1, x2) j).length (byteCells (pre1 c i ++ offPart (x0, x1, x2) j)) ∧ Later w1 wy ∧ wy.heap[Q]? = some (.cells #[.int .i64 x0, .int .i64 x1, .int .i64 x2] 3 (0, 0)) ∧ Q < w1.heap.size + wy.heap.size) := ⟨_, rfl⟩
      obtain ⟨mu2, hmu2⟩ : ∃ mu : (Nat → Value) → World → Nat, mu = (fun us _ => 3 - (intOf (us 34)).toNat) := ⟨_, rfl⟩
      have HR2 := hid hR2; have Hmu2 := hid hmu2; clear hR2 hmu2
      refine wp_loop_frame' [false, false, false, false, true, false, false, false, true, false, false, false, false, false, false, false, false, false, false, false, false, false, false, false, false, false, false, false, false, false, false, false, false, false, true, true, true, true, true, true, true, true] R2 _ mu2 HR2.out ?_ ?_
      · exact ⟨0, v, by omega, rfl, rfl, by rw [(offPart_succ (x0, x1, x2)).1, List.append_nil]; exact HOW5.out, HL5.out, HQ5.out, by have := (Array.getElem?_eq_some_iff.1 HQ5.out).1; omega⟩
      ·
        intro us2 wy hrel
        obtain ⟨j, u, hj, h34, h4', hown, hLy, hq, -⟩ := hrel
        simp only [frameOf, Nat.reduceAdd, h34, h4']
        have Hh34 := hid h34; clear h34
        have Hh4' := hid h4'; clear h4'
        have HJ := hid hj; have HOY := hid hown; have HLY := hid hLy; have HQ := hid hq
        clear hj hown hLy hq
        have hj4 : j = 0 ∨ j = 1 ∨ j = 2 ∨ j = 3 := by have := HJ.out; omega
        rcases hj4 with rfl | rfl | rfl | rfl
        · have q := cell_obj (i := 0) HQ.out (v := .int .i64 x0) rfl
          go_wp2_with fail
          refine (put_int w1.heap.size u _ x0 _ HXO.out.1 HOY.out HLY.out.size (by have := pre1_le c i HIN.out; have := HL.out; have := offPart_len (x0, x1, x2) 0; rw [List.length_append]; omega)).mono ?_
          rintro e w6 ⟨u2, rfl, hp6⟩
          have HO6 := hid hp6.own
          have HL6 := hid (put_over' HLY.out HOY.out hp6)
          have HQ6 := hid (hp6.keep.obj (not_row HQ.out (by decide) HOY.out) HQ.out)
          clear hp6 q
          go_wp2_with fail
          refine Round.mk' HR2.out Hmu2.out rfl ?_ ?_
          · exact ⟨1, u2, by omega, rfl, rfl, by rw [(offPart_succ (x0, x1, x2)).2.1, ← List.append_assoc]; exact HO6.out, HL6.out, HQ6.out, by have := (Array.getElem?_eq_some_iff.1 HQ6.out).1; omega⟩
          · rw [Hh34.out]; simp [intOf, slots]
        · have q := cell_obj (i := 1) HQ.out (v := .int .i64 x1) rfl
          go_wp2_with fail
          refine (put_int w1.heap.size u _ x1 _ HXO.out.2.1 HOY.out HLY.out.size (by have := pre1_le c i HIN.out; have := HL.out; have := offPart_len (x0, x1, x2) 1; rw [List.length_append]; omega)).mono ?_
          rintro e w6 ⟨u2, rfl, hp6⟩
          have HO6 := hid hp6.own
          have HL6 := hid (put_over' HLY.out HOY.out hp6)
          have HQ6 := hid (hp6.keep.obj (not_row HQ.out (by decide) HOY.out) HQ.out)
          clear hp6 q
          go_wp2_with fail
          refine Round.mk' HR2.out Hmu2.out rfl ?_ ?_
          · exact ⟨2, u2, by omega, rfl, rfl, by rw [(offPart_succ (x0, x1, x2)).2.2.1, ← List.append_assoc]; exact HO6.out, HL6.out, HQ6.out, by have := (Array.getElem?_eq_some_iff.1 HQ6.out).1; omega⟩
          · rw [Hh34.out]; simp [intOf, slots]
        · have q := cell_obj (i := 2) HQ.out (v := .int .i64 x2) rfl
          go_wp2_with fail
          refine (put_int w1.heap.size u _ x2 _ HXO.out.2.2 HOY.out HLY.out.size (by have := pre1_le c i HIN.out; have := HL.out; have := offPart_len (x0, x1, x2) 2; rw [List.length_append]; omega)).mono ?_
          rintro e w6 ⟨u2, rfl, hp6⟩
          have HO6 := hid hp6.own
          have HL6 := hid (put_over' HLY.out HOY.out hp6)
          have HQ6 := hid (hp6.keep.obj (not_row HQ.out (by decide) HOY.out) HQ.out)
          clear hp6 q
          go_wp2_with fail
          refine Round.mk' HR2.out Hmu2.out rfl ?_ ?_
          · exact ⟨3, u2, by omega, rfl, rfl, by rw [(offPart_succ (x0, x1, x2)).2.2.2.1, ← List.append_assoc]; exact HO6.out, HL6.out, HQ6.out, by have := (Array.getElem?_eq_some_iff.1 HQ6.out).1; omega⟩
          · rw [Hh34.out]; simp [intOf, slots]
        · go_wp2_with fail
          have hw9 : wrap64 ((i : Int) + 1) = ((i + 1 : Nat) : Int) := by have := HLT.out; have := HL1.out; unfold wrap64; omega
          try simp only [hw9]
          refine Round.mk' HR1.out Hmu1.out rfl ?_ ?_
          · exact ⟨i + 1, u, HLT.out, rfl, rfl, by rw [HPS.out, ← (offPart_succ (x0, x1, x2)).2.2.2.2]; exact HOY.out, HLY.out⟩
          · rw [Hh22.out]; have := HLT.out; simp [intOf, slots]; omega
    · obtain rfl : i = c.offs.length := by have := HIN.out; omega
      have hX4 := HLX.out.obj HX1.out
      have x2 := cell_obj (i := 2) hX4 (v := .slice a2 c.helds.length c2) rfl
      clear hX4
      go_wp2_with fail
      clear x2
      refine (put_int w1.heap.size v _ c.helds.length _ HW2.out HOW.out HLX.out.size (by have := pre1_le c c.offs.length (Nat.le_refl _); have := HL.out; omega)).mono ?_
      rintro e w4 ⟨ve, rfl, hp4⟩
      have HO4 := hid hp4.own
      have HL4 := hid (put_over' HLX.out HOW.out hp4)
      have hX4 := HL4.out.obj HX1.out
      have x2 := cell_obj (i := 2) hX4 (v := .slice a2 c.helds.length c2) rfl
      clear hp4 hX4
      go_wp2_with fail
      clear x2
      obtain ⟨R3, hR3⟩ : ∃ RR_ : (Nat → Value) → World → Prop, RR_ = (fun us wy => ∃ (k : Nat) (v5 : Value), k ≤ c.helds.length ∧ us 51 = .int .i64 k ∧ us 4 = v5 ∧ wy.ownsRow w1.heap.size 5 1 v5 (pre2 c k).length (byteCells (pre2 c k)) ∧ Later w1 wy) := ⟨_, rfl⟩
      obtain ⟨mu3, hmu3⟩ : ∃ mu : (Nat → Value) → World → Nat, mu = (fun us _ => c.helds.length - (intOf (us 51)).toNat) := ⟨_, rfl⟩
      have HR3 := hid hR3; have Hmu3 := hid hmu3; clear hR3 hmu3
      refine wp_loop_frame' [false, false, false, false, true, false, false, false, false, false, true, false, false, false, false, false, false, false, false, false, false, false, false, false, false, false, false, false, false, false, false, false, false, false, false, false, false, false, false, false, false, false, false, false, false, false, false, false, false, false, false, true, true, true, true, true, true, true, true, true, true, true, true, true, true, true, true, true, true, true, true, true, true, true] R3 _ mu3 HR3.out ?_ ?_
      · exact ⟨0, ve, by omega, rfl, rfl, by simpa [pre2] using HO4.out, HL4.out⟩
      ·
        intro us3 wy hrel
        obtain ⟨k, v5, hk, h51, h4', hown, hLy⟩ := hrel
        simp only [frameOf, Nat.reduceAdd, h51, h4']
        have Hh51 := hid h51; clear h51
        have Hh4' := hid h4'; clear h4'
        have HKN := hid hk; have HO5 := hid hown; have HL5 := hid hLy
        clear hk hown hLy
        by_cases hlt : k < c.helds.length
        · have HBOX := hid HKN.out
          obtain ⟨a9, c9, e9, -, -, -, hel⟩ := H2.out
          simp only [Value.slice.injEq] at e9
          obtain ⟨rfl, -, rfl⟩ := e9
          obtain ⟨b, o, rfl, -, q0, q1, bv, q2, hbv⟩ := hel k hlt
          replace q0 := (Later.trans _ _ _ HLW.out HL5.out).cell q0
          replace q1 := (Later.trans _ _ _ HLW.out HL5.out).cell q1
          replace q2 := (Later.trans _ _ _ HLW.out HL5.out).cell q2
          have HKL := hid hlt
          obtain ⟨x, hx⟩ : ∃ x : Held, x = c.helds[k]'hlt := ⟨_, rfl⟩
          have HXH : Hid (HeldOk x) := hid (by rw [hx]; exact HH.out _ (List.getElem_mem hlt))
          have HPS2 : Hid (pre2 c (k + 1) = pre2 c k ++ encHeld x) := hid (by rw [hx]; exact pre2_succ c hlt)
          rw [← hx] at q0 q1 hbv
          have hbl : x.bytes.length ≤ 20000000 := by
            have h1 := pre2_le c (k + 1) hlt
            have h2 := HL.out
            rw [HPS2.out] at h1
            simp only [List.length_append, encHeld] at h1
            omega
          have HXB : Hid ((Lit.int .i64 (x.bytes.length : Int)).wf = true) := hid (by simp [Lit.wf, IntKind.min, IntKind.max, IntKind.bits, IntKind.signed]; omega)
          obtain ⟨pa, ca, rfl, -⟩ : ∃ pa ca, bv = .slice pa x.bytes.length ca ∧ True := by obtain ⟨pa, ca, h, -⟩ := hbv; exact ⟨pa, ca, h, trivial⟩
          have HBV := hid hbv
          clear hel hx hbv hbl
          go_upto_region 16 with (fail)
          obtain ⟨Y, hY⟩ : ∃ Y, Y = wy.heap.size := ⟨_, rfl⟩
          obtain ⟨w6, hw6⟩ : ∃ w6, w6 = wy.alloc (.cells #[.int .i64 x.node, .int .i64 x.group, .slice pa x.bytes.length ca] 158 (0, 0)) := ⟨_, rfl⟩
          have hL6 : Later wy w6 := by rw [hw6]; exact Later.alloc _ _
          have HY6 : Hid (w6.heap[Y]? = some (.cells #[.int .i64 x.node, .int .i64 x.group, .slice pa x.bytes.length ca] 158 (0, 0))) := hid (by rw [hw6, hY]; exact obj_new _ _)
          have HL6 := hid (Later.trans _ _ _ HL5.out hL6)
          have HO6 := hid (own_later HO5.out hL6)
          have HBB := hid HBV.out
          rw [← hw6, ← hY]
          clear hw6 hY hL6 q0 q1 q2 hlt
          obtain ⟨R4, hR4⟩ : ∃ RR_ : (Nat → Value) → World → Prop, RR_ = (fun us wz => ∃ v6 : Value, us 4 = v6 ∧ wz.ownsRow w1.heap.size 5 1 v6 (pre2 c k ++ (encInt x.node ++ encInt x.group)).length (byteCells (pre2 c k ++ (encInt x.node ++ encInt x.group))) ∧ Later w1 wz ∧ wz.heap[Y]? = some (.cells #[.int .i64 x.node, .int .i64 x.group, .slice pa x.bytes.length ca] 158 (0, 0))) := ⟨_, rfl⟩
          have HR4 := hid hR4; clear hR4
          refine wp_cut_frame' [false, false, false, false, true, false, false, false, false, false, false, false, false, false, false, false, false, false, false, false, false, false, false, false, false, false, false, false, false, false, false, false, false, false, false, false, false, false, false, false, false, false, false, false, false, false, false, false, false, false, false, false, false, false, false, true, true, true, true, true, true, true, true] R4 _ HR4.out ?_ ?_
          · have HOD := hid (own_later HO6.out (Later.drew w6))
            have HLD := hid (Later.trans _ _ _ HL6.out (Later.drew w6))
            have HYD := hid ((Later.drew w6).obj HY6.out)
            have r0 := cell_obj (i := 0) HYD.out (v := .int .i64 x.node) rfl
            have r1 := cell_obj (i := 1) HYD.out (v := .int .i64 x.group) rfl
            have r2 := cell_obj (i := 2) HYD.out (v := .slice pa x.bytes.length ca) rfl
            refine wp_region_any (by kernel_rfl) ?_
            change wpAny _ _ _ _ _ _ _ (World.drew _)
            refine wpAny_take (i := 0) (v := v5) rfl (by kernel_rfl) (by kernel_rfl) (by kernel_rfl) (fun _ _ _ h => h) (Or.inl ⟨by rfl, ?_⟩) ?_
            · intro w; go_simp
            simp only [Act.put, List.setIfInBounds_toArray, List.set]
            refine wpAny_take (i := 1) (v := .pointer (some ⟨Y, 0, none⟩)) rfl (by kernel_rfl) (by kernel_rfl) (by kernel_rfl) (fun _ _ _ h => h) (Or.inl ⟨by rfl, ?_⟩) ?_
            · intro w; go_simp
            simp only [Act.put, List.setIfInBounds_toArray, List.set]
            refine wpAny_take (i := 4) (v := .pointer (some ⟨Y, 1, none⟩)) rfl (by kernel_rfl) (by kernel_rfl) (by kernel_rfl) (fun _ _ _ h => h) (Or.inl ⟨by rfl, ?_⟩) ?_
            · intro w; go_simp
            simp only [Act.put, List.setIfInBounds_toArray, List.set]
            refine wpAny_take (i := 5) (v := .pointer (some ⟨Y, 1, none⟩)) rfl (by kernel_rfl) (by kernel_rfl) (by kernel_rfl) (fun _ _ _ h => h) (Or.inl ⟨by rfl, ?_⟩) ?_
            · intro w; go_simp
            simp only [Act.put, List.setIfInBounds_toArray, List.set]
            refine wpAny_ready (rs := [2, 6]) (by kernel_rfl) (by simp) (AllReady.cons rfl (fun K hK => ?_) (AllReady.cons rfl (fun K hK => ?_) AllReady.nil))
            · go_simp
              refine hK _ _ ?_
              clear hK K
              refine wpAny_ready (rs := [3, 6]) (by kernel_rfl) (by simp) (AllReady.cons rfl (fun K hK => ?_) (AllReady.cons rfl (fun K hK => ?_) AllReady.nil))
              · go_simp
                refine (put_int w1.heap.size v5 _ x.node _ HXH.out.1 HOD.out HLD.out.size (by have := pre2_le c k HKN.out; have := HL.out; have := encInt_length x.node; have := encInt_length x.group; (try simp only [List.length_append]); omega)).mono ?_
                rintro e wa ⟨va, rfl, hpa⟩
                have HOa := hid hpa.own
                have HLa := hid (put_over' HLD.out HOD.out hpa)
                have HYa := hid (hpa.keep.obj (not_row HYD.out (by decide) HOD.out) HYD.out)
                clear hpa r0 r1 r2
                have r0 := cell_obj (i := 0) HYa.out (v := .int .i64 x.node) rfl
                have r1 := cell_obj (i := 1) HYa.out (v := .int .i64 x.group) rfl
                have r2 := cell_obj (i := 2) HYa.out (v := .slice pa x.bytes.length ca) rfl
                refine hK _ _ ?_
                clear hK K
                refine wpAny_next (i := 6) (by kernel_rfl) rfl (fun _ _ h => wpAny_next (i := 7) (by kernel_rfl) rfl (fun _ _ h => wpAny_next (i := 8) (rest := []) (by kernel_rfl) rfl (fun _ _ h => wpAny_done (by kernel_rfl) h _) h) h) ?_
                simp only [List.getElem_toArray, List.getElem_cons_succ, List.getElem_cons_zero]
                go_wp2_with fail
                refine (put_int w1.heap.size va _ x.group _ HXH.out.2 HOa.out HLa.out.size (by have := pre2_le c k HKN.out; have := HL.out; have := encInt_length x.node; have := encInt_length x.group; (try simp only [List.length_append]); omega)).mono ?_
                rintro e wb ⟨vb, rfl, hpb⟩
                have HOb := hid hpb.own
                have HLb := hid (put_over' HLa.out HOa.out hpb)
                have HYb := hid (hpb.keep.obj (not_row HYa.out (by decide) HOa.out) HYa.out)
                clear hpb r0 r1 r2
                have r0 := cell_obj (i := 0) HYb.out (v := .int .i64 x.node) rfl
                have r1 := cell_obj (i := 1) HYb.out (v := .int .i64 x.group) rfl
                have r2 := cell_obj (i := 2) HYb.out (v := .slice pa x.bytes.length ca) rfl
                go_wp2_with fail
                refine Meet.mk' HR4.out rfl ?_
                exact ⟨vb, rfl, by rw [← List.append_assoc]; exact HOb.out, HLb.out, HYb.out⟩
              · go_simp
                refine hK _ _ ?_
                clear hK K
                refine wpAny_next (i := 3) (by kernel_rfl) rfl (fun _ _ h => wpAny_next (i := 7) (by kernel_rfl) rfl (fun _ _ h => wpAny_next (i := 8) (rest := []) (by kernel_rfl) rfl (fun _ _ h => wpAny_done (by kernel_rfl) h _) h) h) ?_
                simp only [List.getElem_toArray, List.getElem_cons_succ, List.getElem_cons_zero]
                go_wp2_with fail
                refine (put_int w1.heap.size v5 _ x.node _ HXH.out.1 HOD.out HLD.out.size (by have := pre2_le c k HKN.out; have := HL.out; have := encInt_length x.node; have := encInt_length x.group; (try simp only [List.length_append]); omega)).mono ?_
                rintro e wa ⟨va, rfl, hpa⟩
                have HOa := hid hpa.own
                have HLa := hid (put_over' HLD.out HOD.out hpa)
                have HYa := hid (hpa.keep.obj (not_row HYD.out (by decide) HOD.out) HYD.out)
                clear hpa r0 r1 r2
                have r0 := cell_obj (i := 0) HYa.out (v := .int .i64 x.node) rfl
                have r1 := cell_obj (i := 1) HYa.out (v := .int .i64 x.group) rfl
                have r2 := cell_obj (i := 2) HYa.out (v := .slice pa x.bytes.length ca) rfl
                go_wp2_with fail
                refine (put_int w1.heap.size va _ x.group _ HXH.out.2 HOa.out HLa.out.size (by have := pre2_le c k HKN.out; have := HL.out; have := encInt_length x.node; have := encInt_length x.group; (try simp only [List.length_append]); omega)).mono ?_
                rintro e wb ⟨vb, rfl, hpb⟩
                have HOb := hid hpb.own
                have HLb := hid (put_over' HLa.out HOa.out hpb)
                have HYb := hid (hpb.keep.obj (not_row HYa.out (by decide) HOa.out) HYa.out)
                clear hpb r0 r1 r2
                have r0 := cell_obj (i := 0) HYb.out (v := .int .i64 x.node) rfl
                have r1 := cell_obj (i := 1) HYb.out (v := .int .i64 x.group) rfl
                have r2 := cell_obj (i := 2) HYb.out (v := .slice pa x.bytes.length ca) rfl
                go_wp2_with fail
                refine Meet.mk' HR4.out rfl ?_
                exact ⟨vb, rfl, by rw [← List.append_assoc]; exact HOb.out, HLb.out, HYb.out⟩
            · go_simp
              refine hK _ _ ?_
              clear hK K
              refine wpAny_next (i := 2) (by kernel_rfl) rfl (fun _ _ h => wpAny_next (i := 3) (by kernel_rfl) rfl (fun _ _ h => wpAny_next (i := 7) (by kernel_rfl) rfl (fun _ _ h => wpAny_next (i := 8) (rest := []) (by kernel_rfl) rfl (fun _ _ h => wpAny_done (by kernel_rfl) h _) h) h) h) ?_
              simp only [List.getElem_toArray, List.getElem_cons_succ, List.getElem_cons_zero]
              go_wp2_with fail
              refine (put_int w1.heap.size v5 _ x.node _ HXH.out.1 HOD.out HLD.out.size (by have := pre2_le c k HKN.out; have := HL.out; have := encInt_length x.node; have := encInt_length x.group; (try simp only [List.length_append]); omega)).mono ?_
              rintro e wa ⟨va, rfl, hpa⟩
              have HOa := hid hpa.own
              have HLa := hid (put_over' HLD.out HOD.out hpa)
              have HYa := hid (hpa.keep.obj (not_row HYD.out (by decide) HOD.out) HYD.out)
              clear hpa r0 r1 r2
              have r0 := cell_obj (i := 0) HYa.out (v := .int .i64 x.node) rfl
              have r1 := cell_obj (i := 1) HYa.out (v := .int .i64 x.group) rfl
              have r2 := cell_obj (i := 2) HYa.out (v := .slice pa x.bytes.length ca) rfl
              go_wp2_with fail
              refine (put_int w1.heap.size va _ x.group _ HXH.out.2 HOa.out HLa.out.size (by have := pre2_le c k HKN.out; have := HL.out; have := encInt_length x.node; have := encInt_length x.group; (try simp only [List.length_append]); omega)).mono ?_
              rintro e wb ⟨vb, rfl, hpb⟩
              have HOb := hid hpb.own
              have HLb := hid (put_over' HLa.out HOa.out hpb)
              have HYb := hid (hpb.keep.obj (not_row HYa.out (by decide) HOa.out) HYa.out)
              clear hpb r0 r1 r2
              have r0 := cell_obj (i := 0) HYb.out (v := .int .i64 x.node) rfl
              have r1 := cell_obj (i := 1) HYb.out (v := .int .i64 x.group) rfl
              have r2 := cell_obj (i := 2) HYb.out (v := .slice pa x.bytes.length ca) rfl
              go_wp2_with fail
              refine Meet.mk' HR4.out rfl ?_
              exact ⟨vb, rfl, by rw [← List.append_assoc]; exact HOb.out, HLb.out, HYb.out⟩
          ·
            intro us4 wz hrel
            obtain ⟨v6, h4z, hown, hLz, hYz⟩ := hrel
            simp only [frameOf, Nat.reduceAdd, h4z]
            have Hh4z := hid h4z; clear h4z
            have HOE := hid (own_later hown (Later.drew wz))
            have HLE := hid (Later.trans _ _ _ hLz (Later.drew wz))
            have HYE := hid ((Later.drew wz).obj hYz)
            have r0 := cell_obj (i := 0) HYE.out (v := .int .i64 x.node) rfl
            have r1 := cell_obj (i := 1) HYE.out (v := .int .i64 x.group) rfl
            have r2 := cell_obj (i := 2) HYE.out (v := .slice pa x.bytes.length ca) rfl
            clear hown hLz hYz
            go_wp2_with fail
            refine wp_region_any (by kernel_rfl) ?_
            change wpAny _ _ _ _ _ _ _ (World.drew _)
            refine wpAny_take (i := 0) (v := v6) rfl (by kernel_rfl) (by kernel_rfl) (by kernel_rfl) (fun _ _ _ h => h) (Or.inl ⟨by rfl, ?_⟩) ?_
            · intro w; go_simp
            simp only [Act.put, List.setIfInBounds_toArray, List.set]
            refine wpAny_take (i := 1) (v := .pointer (some ⟨Y, 1, none⟩)) rfl (by kernel_rfl) (by kernel_rfl) (by kernel_rfl) (fun _ _ _ h => h) (Or.inl ⟨by rfl, ?_⟩) ?_
            · intro w; go_simp
            simp only [Act.put, List.setIfInBounds_toArray, List.set]
            refine wpAny_take (i := 2) (v := .pointer (some ⟨Y, 2, none⟩)) rfl (by kernel_rfl) (by kernel_rfl) (by kernel_rfl) (fun _ _ _ h => h) (Or.inl ⟨by rfl, ?_⟩) ?_
            · intro w; go_simp
            simp only [Act.put, List.setIfInBounds_toArray, List.set]
            refine wpAny_take (i := 6) (v := .pointer (some ⟨Y, 1, none⟩)) rfl (by kernel_rfl) (by kernel_rfl) (by kernel_rfl) (fun _ _ _ h => h) (Or.inl ⟨by rfl, ?_⟩) ?_
            · intro w; go_simp
            simp only [Act.put, List.setIfInBounds_toArray, List.set]
            refine wpAny_take (i := 7) (v := .pointer (some ⟨Y, 2, none⟩)) rfl (by kernel_rfl) (by kernel_rfl) (by kernel_rfl) (fun _ _ _ h => h) (Or.inl ⟨by rfl, ?_⟩) ?_
            · intro w; go_simp
            simp only [Act.put, List.setIfInBounds_toArray, List.set]
            refine wpAny_ready (rs := [3, 8]) (by kernel_rfl) (by simp) (AllReady.cons rfl (fun K hK => ?_) (AllReady.cons rfl (fun K hK => ?_) AllReady.nil))
            · go_simp
              refine hK _ _ ?_
              clear hK K
              refine wpAny_take (i := 4) (v := .int .i64 x.bytes.length) rfl (by kernel_rfl) (by kernel_rfl) (by kernel_rfl) (fun _ _ _ h => h) (Or.inl ⟨by rfl, ?_⟩) ?_
              · intro w; go_simp
              simp only [Act.put, List.setIfInBounds_toArray, List.set]
              refine wpAny_ready (rs := [5, 8]) (by kernel_rfl) (by simp) (AllReady.cons rfl (fun K hK => ?_) (AllReady.cons rfl (fun K hK => ?_) AllReady.nil))
              · go_simp
                refine (put_int w1.heap.size v6 _ x.bytes.length _ HXB.out HOE.out HLE.out.size (by have := pre2_le c k HKN.out; have := HL.out; have := encInt_length x.node; have := encInt_length x.group; simp only [List.length_append]; omega)).mono ?_
                rintro e wd ⟨vd, rfl, hpd⟩
                have HOd := hid hpd.own
                have HLd := hid (put_over' HLE.out HOE.out hpd)
                have HYd := hid (hpd.keep.obj (not_row HYE.out (by decide) HOE.out) HYE.out)
                clear hpd r0 r1 r2
                have r0 := cell_obj (i := 0) HYd.out (v := .int .i64 x.node) rfl
                have r1 := cell_obj (i := 1) HYd.out (v := .int .i64 x.group) rfl
                have r2 := cell_obj (i := 2) HYd.out (v := .slice pa x.bytes.length ca) rfl
                refine hK _ _ ?_
                clear hK K
                refine wpAny_next (i := 8) (by kernel_rfl) rfl (fun _ _ h => wpAny_next (i := 9) (by kernel_rfl) rfl (fun _ _ h => wpAny_next (i := 10) (rest := []) (by kernel_rfl) rfl (fun _ _ h => wpAny_done (by kernel_rfl) h _) h) h) ?_
                simp only [List.getElem_toArray, List.getElem_cons_succ, List.getElem_cons_zero]
                have HBY := hid (HBB.out.bytes_later (Later.trans _ _ _ HLW.out HLd.out))
                go_wp2_with (at_builtin; go_loud (refine wpList_put_bytes rfl _ _ 76 rfl w1.heap.size 5 ii Tryd.underlying76 HI.out HZ0.out HZ1.out HZ2.out _ _ rfl HOd.out _ _ x.bytes rfl HBY.out ?c2 ?c3 ?_))
                case c2 => have h8 := HL.out; have h9 := pre2_le c (k + 1) (by have := HKL.out; omega); rw [HPS2.out] at h9; simp only [List.length_append, encHeld] at h9 ⊢; omega
                case c3 => exact HLd.out.size
                intro vf wf hpf
                have HOf := hid hpf.own
                have HLf := hid (put_over' HLd.out HOd.out hpf)
                clear hpf r0 r1 r2
                go_wp2_with fail
                have hw9 : wrap64 ((k : Int) + 1) = ((k + 1 : Nat) : Int) := by have := HKL.out; have := HL2.out; unfold wrap64; omega
                try simp only [hw9]
                refine Round.mk' HR3.out Hmu3.out rfl ?_ ?_
                · exact ⟨k + 1, vf, HKL.out, rfl, rfl, by rw [HPS2.out, encHeld]; simpa [List.append_assoc] using HOf.out, HLf.out⟩
                · rw [Hh51.out]; have := HKL.out; simp [intOf, slots]; omega
              · go_simp
                refine hK _ _ ?_
                clear hK K
                refine wpAny_next (i := 5) (by kernel_rfl) rfl (fun _ _ h => wpAny_next (i := 9) (by kernel_rfl) rfl (fun _ _ h => wpAny_next (i := 10) (rest := []) (by kernel_rfl) rfl (fun _ _ h => wpAny_done (by kernel_rfl) h _) h) h) ?_
                simp only [List.getElem_toArray, List.getElem_cons_succ, List.getElem_cons_zero]
                go_wp2_with fail
                refine (put_int w1.heap.size v6 _ x.bytes.length _ HXB.out HOE.out HLE.out.size (by have := pre2_le c k HKN.out; have := HL.out; have := encInt_length x.node; have := encInt_length x.group; simp only [List.length_append]; omega)).mono ?_
                rintro e wd ⟨vd, rfl, hpd⟩
                have HOd := hid hpd.own
                have HLd := hid (put_over' HLE.out HOE.out hpd)
                have HYd := hid (hpd.keep.obj (not_row HYE.out (by decide) HOE.out) HYE.out)
                clear hpd r0 r1 r2
                have r0 := cell_obj (i := 0) HYd.out (v := .int .i64 x.node) rfl
                have r1 := cell_obj (i := 1) HYd.out (v := .int .i64 x.group) rfl
                have r2 := cell_obj (i := 2) HYd.out (v := .slice pa x.bytes.length ca) rfl
                have HBY := hid (HBB.out.bytes_later (Later.trans _ _ _ HLW.out HLd.out))
                go_wp2_with (at_builtin; go_loud (refine wpList_put_bytes rfl _ _ 76 rfl w1.heap.size 5 ii Tryd.underlying76 HI.out HZ0.out HZ1.out HZ2.out _ _ rfl HOd.out _ _ x.bytes rfl HBY.out ?c2 ?c3 ?_))
                case c2 => have h8 := HL.out; have h9 := pre2_le c (k + 1) (by have := HKL.out; omega); rw [HPS2.out] at h9; simp only [List.length_append, encHeld] at h9 ⊢; omega
                case c3 => exact HLd.out.size
                intro vf wf hpf
                have HOf := hid hpf.own
                have HLf := hid (put_over' HLd.out HOd.out hpf)
                clear hpf r0 r1 r2
                go_wp2_with fail
                have hw9 : wrap64 ((k : Int) + 1) = ((k + 1 : Nat) : Int) := by have := HKL.out; have := HL2.out; unfold wrap64; omega
                try simp only [hw9]
                refine Round.mk' HR3.out Hmu3.out rfl ?_ ?_
                · exact ⟨k + 1, vf, HKL.out, rfl, rfl, by rw [HPS2.out, encHeld]; simpa [List.append_assoc] using HOf.out, HLf.out⟩
                · rw [Hh51.out]; have := HKL.out; simp [intOf, slots]; omega
            · go_simp
              refine hK _ _ ?_
              clear hK K
              refine wpAny_next (i := 3) (by kernel_rfl) rfl (fun _ _ h => wpAny_next (i := 4) (by kernel_rfl) rfl (fun _ _ h => wpAny_next (i := 5) (by kernel_rfl) rfl (fun _ _ h => wpAny_next (i := 9) (by kernel_rfl) rfl (fun _ _ h => wpAny_next (i := 10) (rest := []) (by kernel_rfl) rfl (fun _ _ h => wpAny_done (by kernel_rfl) h _) h) h) h) h) ?_
              simp only [List.getElem_toArray, List.getElem_cons_succ, List.getElem_cons_zero]
              go_wp2_with fail
              refine (put_int w1.heap.size v6 _ x.bytes.length _ HXB.out HOE.out HLE.out.size (by have := pre2_le c k HKN.out; have := HL.out; have := encInt_length x.node; have := encInt_length x.group; simp only [List.length_append]; omega)).mono ?_
              rintro e wd ⟨vd, rfl, hpd⟩
              have HOd := hid hpd.own
              have HLd := hid (put_over' HLE.out HOE.out hpd)
              have HYd := hid (hpd.keep.obj (not_row HYE.out (by decide) HOE.out) HYE.out)
              clear hpd r0 r1 r2
              have r0 := cell_obj (i := 0) HYd.out (v := .int .i64 x.node) rfl
              have r1 := cell_obj (i := 1) HYd.out (v := .int .i64 x.group) rfl
              have r2 := cell_obj (i := 2) HYd.out (v := .slice pa x.bytes.length ca) rfl
              have HBY := hid (HBB.out.bytes_later (Later.trans _ _ _ HLW.out HLd.out))
              go_wp2_with (at_builtin; go_loud (refine wpList_put_bytes rfl _ _ 76 rfl w1.heap.size 5 ii Tryd.underlying76 HI.out HZ0.out HZ1.out HZ2.out _ _ rfl HOd.out _ _ x.bytes rfl HBY.out ?c2 ?c3 ?_))
              case c2 => have h8 := HL.out; have h9 := pre2_le c (k + 1) (by have := HKL.out; omega); rw [HPS2.out] at h9; simp only [List.length_append, encHeld] at h9 ⊢; omega
              case c3 => exact HLd.out.size
              intro vf wf hpf
              have HOf := hid hpf.own
              have HLf := hid (put_over' HLd.out HOd.out hpf)
              clear hpf r0 r1 r2
              go_wp2_with fail
              have hw9 : wrap64 ((k : Int) + 1) = ((k + 1 : Nat) : Int) := by have := HKL.out; have := HL2.out; unfold wrap64; omega
              try simp only [hw9]
              refine Round.mk' HR3.out Hmu3.out rfl ?_ ?_
              · exact ⟨k + 1, vf, HKL.out, rfl, rfl, by rw [HPS2.out, encHeld]; simpa [List.append_assoc] using HOf.out, HLf.out⟩
              · rw [Hh51.out]; have := HKL.out; simp [intOf, slots]; omega
        · obtain rfl : k = c.helds.length := by have := HKN.out; omega
          go_wp2_with fail
          refine (seal_any v5 (encChk c) _ (by rw [← pre2_all c]; exact (owned_bytes HO5.out).bytes_mono fun _ _ => trivial) (by have := HL.out; omega)).mono ?_
          rintro e w7 ⟨v7, rfl, ho7, hL7⟩
          have HL7 := hid (Later.trans _ _ _ HLW.out (Later.trans _ _ _ HL5.out hL7))
          have HO7 := hid ho7
          have HSZ := hid (Nat.le_trans HLW.out.size HL5.out.size)
          clear ho7 hL7
          go_wp2_with fail
          go_ret2
          exact ⟨v7, rfl, ⟨HO7.out.1, HO7.out.2.imp id fun ⟨g, cap, cur, h1, h2, h3⟩ => ⟨g, cap, cur, h1, Nat.le_trans HSZ.out h2, h3⟩⟩, HL7.out⟩
end Go.Proofs.YthfgjmdmcoogpaaDoor
