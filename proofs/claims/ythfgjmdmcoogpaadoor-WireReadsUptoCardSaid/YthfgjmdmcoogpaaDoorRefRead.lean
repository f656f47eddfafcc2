/-
  PROVED HERE: the contract of the document's ReadRows.
-/
import Derived.Test.YthfgjmdmcoogpaaDoorRefVal
import Derived.Test.YthfgjmdmcoogpaaDoorReaderAll
import Derived.Test.YthfgjmdmcoogpaaDoorRefValid
namespace Go.Proofs.YthfgjmdmcoogpaaDoor
set_option linter.unusedSimpArgs false
set_option linter.unusedVariables false
open Go.RowKit

theorem dAll_int {l : List UInt8} (h : dInt l = none) : dAll l = none := dAll_none fun xs hx => by unfold dRows at hx; rw [h] at hx; cases hx
theorem dAll_neg {l r : List UInt8} {n : Int} (h : dInt l = some (n, r)) (hn : n < 0) : dAll l = none := dAll_none fun xs hx => by unfold dRows at hx; rw [h] at hx; simp only at hx; rw [if_pos hn] at hx; cases hx
theorem dAll_many {l r : List UInt8} {n : Nat} (h : dInt l = some ((n : Int), r)) (hn : l.length < n) : dAll l = none := dAll_none fun xs hx => by
  unfold dRows at hx
  rw [h] at hx
  simp only at hx
  rw [if_neg (by omega)] at hx
  simp only [Int.toNat_natCast] at hx
  have := (dMany_len dRow_len _ _ _ _ hx).1
  have := dInt_len h
  omega
theorem dAll_rows {l : List UInt8} (h : dRows l = none) : dAll l = none := dAll_none fun xs hx => by rw [h] at hx; cases hx
theorem dAll_more {l r : List UInt8} {xs : List Row} (h : dRows l = some (xs, r)) (hr : r ≠ []) : dAll l = none := dAll_none fun ys hy => by
  rw [h] at hy
  simp only [Option.some.injEq, Prod.mk.injEq] at hy
  exact hr hy.2
theorem dRow_many {l r r1 : List UInt8} {t k : Int} (h : dInt l = some (t, r)) (h2 : dInt r = some (k, r1)) (hk : k < 0 ∨ 8 < k) : dRow l = none := by
  unfold dRow
  rw [h]; simp only; rw [h2]; simp only
  split
  · rfl
  · cases h3 : dMany dVal k.toNat r1 with
    | none => rfl
    | some p =>
      obtain ⟨ys, r2⟩ := p
      simp only
      have := (dMany_len dVal_len _ _ _ _ h3).2
      rw [if_neg]
      unfold validR
      simp only [Bool.and_eq_true, decide_eq_true_eq]
      omega
/-- what ReadRows comes to. -/
def ReadTo (w : World) (l : List UInt8) (e : Ending) (w' : World) : Prop :=
  Later w w' ∧ match dAll l with
    | some xs => ∃ v, e = .returned (.tuple #[v, .bool true]) ∧ RowsOwnF w.heap.size w' v xs
    | none => ∃ v, e = .returned (.tuple #[v, .bool false])
theorem readTo_no {w w' : World} {l : List UInt8} {v : Value} {e : Ending} (h : dAll l = none) (he : e = .returned (.tuple #[v, .bool false])) (hk : Later w w') : ReadTo w l e w' := by
  unfold ReadTo
  rw [h]
  exact ⟨hk, v, he⟩
theorem readTo_yes {w w' : World} {l : List UInt8} {v : Value} {xs : List Row} {e : Ending} (h : dAll l = some xs) (he : e = .returned (.tuple #[v, .bool true])) (ho : RowsOwnF w.heap.size w' v xs) (hk : Later w w') : ReadTo w l e w' := by
  unfold ReadTo
  rw [h]
  exact ⟨hk, v, he, ho⟩

set_option maxRecDepth 100000 in
set_option maxHeartbeats 8000000 in
theorem ref_read (v : Value) (l : List UInt8) (w : World) (h : IsBytes w v l) (hl : l.length ≤ 1099511627776) : Calls Tryd.prog 37 #[v] w (ReadTo w l) := by
  have hb := SliceOf.blt h
  obtain ⟨av, cv, rfl, hlc, hcm, -, hel⟩ := h
  have HBY := hid hb
  have HLL := hid hl
  clear hb hlc hcm hel hl
  go_enter Tryd.func37, Tryd.ntmps37
  go_wp2_with fail
  obtain ⟨X, hX⟩ : ∃ X, X = w.heap.size := ⟨_, rfl⟩
  obtain ⟨w1, hw1⟩ : ∃ w1, w1 = w.alloc (.cells #[.slice av l.length cv, .int .i64 0, .bool false] 141 (0, 0)) := ⟨_, rfl⟩
  have HL1 : Hid (Later w w1) := hid (by rw [hw1]; exact Later.alloc _ _)
  have HI1 : Hid (InB w1 X (.slice av l.length cv) l 0 false) := hid ⟨by rw [hw1, hX]; exact obj_new _ _, by rw [hX]; exact HBY.out.bytes_later HL1.out, Nat.zero_le _⟩
  have HXW : Hid (w.heap.size ≤ X) := hid (Nat.le_of_eq hX.symm)
  rw [← hX, ← hw1]
  clear hX hw1
  refine (ref_number X _ l 0 false _ HI1.out HLL.out).mono ?_
  rintro e w2 ⟨n, m0, b0, rfl, hi2, hk2, hr2, -, hy2, hn2⟩
  have HG0 : Hid (b0 = false → dInt l = some (n, l.drop m0)) := hid hy2
  have HB0 : Hid (b0 = true → dAll l = none) := hid fun h => dAll_int ((hn2 h).resolve_left (by simp))
  have HI2 := hid hi2
  have HK2 := hid hk2
  have HL2 := hid (keeps_later HL1.out hk2 HXW.out)
  have HX2 := hid hi2.lt
  clear hi2 hk2 hr2 hy2 hn2
  by_cases hn0 : n < 0
  · have HD : Hid (dAll l = none) := hid (by
      cases hb : b0 with
      | true => exact HB0.out hb
      | false => exact dAll_neg (HG0.out hb) hn0)
    go_wp2_with fail
    go_ret2
    exact readTo_no HD.out rfl HL2.out
  obtain ⟨N, rfl⟩ : ∃ N : Nat, n = N := ⟨n.toNat, by omega⟩
  by_cases hnl : l.length < N
  · have HD : Hid (dAll l = none) := hid (by
      cases hb : b0 with
      | true => exact HB0.out hb
      | false => exact dAll_many (HG0.out hb) hnl)
    go_wp2_with fail
    go_ret2
    exact readTo_no HD.out rfl HL2.out
  clear hn0
  have HNL : Hid (N ≤ l.length) := hid (by omega)
  go_wp2_with fail
  clear hnl
  obtain ⟨R1, hR1⟩ : ∃ RR_ : (Nat → Value) → World → Prop, RR_ = (fun us wx => ∃ (xs : List Row) (m : Nat) (b : Bool) (a : Option Addr) (cp : Nat), us 7 = .int .i64 xs.length ∧ us 5 = .slice a xs.length cp ∧ xs.length ≤ N ∧ RowsOwnF w2.heap.size wx (.slice a xs.length cp) xs ∧ InB wx X (.slice av l.length cv) l m b ∧ Keeps (fun b => b ≠ X) w2 wx ∧ (b = false → b0 = false ∧ dMany dRow xs.length (l.drop m0) = some (xs, l.drop m)) ∧ (b = true → dAll l = none)) := ⟨_, rfl⟩
  obtain ⟨mu1, hmu1⟩ : ∃ mu : (Nat → Value) → World → Nat, mu = (fun us _ => N - (intOf (us 7)).toNat) := ⟨_, rfl⟩
  have HR1 := hid hR1; have Hmu1 := hid hmu1; clear hR1 hmu1
  refine wp_loop_frame' [false, false, true, true, false, true, false, true, true, true, true, true, true, false, false, false, false, false, false, false, false, false, false, false, false, false, true, true, true, true, true, true, true, true, true, true, true, true, true, true, true, true, true, true, true, true, true, true, true, true, true, true, true, true, true, true, true, true, true, true, true, true, true, true, true, true, true, true, true, true, true, true, true, true, true, true, true, true, true, true, true, true, true, true, true, true, true] R1 _ mu1 HR1.out ?_ ?_
  · exact ⟨[], m0, b0, none, 0, rfl, rfl, Nat.zero_le _, rowsF_nil _ _, HI2.out, Keeps.refl _ _, fun h => ⟨h, rfl⟩, HB0.out⟩
  intro us1 wx hrel
  obtain ⟨xs, m, b, a, cp, h7, h5, hxn, ho, hi, hk, hgood, hbad⟩ := hrel
  simp only [frameOf, Nat.reduceAdd, h7, h5]
  have Hh7 := hid h7; clear h7
  have Hh5 := hid h5; clear h5
  have HXN := hid hxn
  have HO := hid ho
  have HIX := hid hi
  have HKX := hid hk
  have HG := hid hgood
  have HB := hid hbad
  clear hxn ho hi hk hgood hbad
  have x1 := cell_obj (i := 1) HIX.out.1 (v := .int .i64 (m : Nat)) rfl
  have x2 := cell_obj (i := 2) HIX.out.1 (v := .bool b) rfl
  have HLX := hid (keeps_later HL1.out (HK2.out.trans HKX.out) HXW.out)
  cases b with
  | true =>
    have hD : dAll l = none := HB.out rfl
    have HD := hid hD
    clear hD
    by_cases hlt : xs.length < N
    all_goals
      go_wp2_with fail
      refine wp_region_lex (by kernel_rfl) (by kernel_rfl) Later Later.refl Later.trans (fun _ => none) (fun _ _ _ _ _ h => by cases h) ?_
      simp only [numbered, Nat.reduceAdd]
      refine LexS.out ?_
      iterate 17
        first
        | (refine LexS.skip rfl ?_; simp only [Act.put, List.setIfInBounds_toArray, List.set])
        | (refine LexS.one' rfl rfl ?_
           apply Exists.intro
           refine ⟨fun w hR hF => ?_, ?_⟩
           · have hP := hR
             repeat (first | replace hP := Later.of_drew hP | replace hP := Later.of_drewN hP | replace hP := Later.of_alloc hP)
             have hcs := hR.cells
             have zx1 := hP.cell x1
             have zx2 := hP.cell x2
             clear hR hF hP
             go_simp
             first | done | rfl
           simp only [Act.put, List.setIfInBounds_toArray, List.set])
      refine LexS.nil ?_
      intro w3 hR3 hF9
      clear hF9
      repeat (first | replace hR3 := Later.of_drew hR3 | replace hR3 := Later.of_drewN hR3 | replace hR3 := Later.of_alloc hR3)
      have HL3 := hid (Later.trans _ _ _ HLX.out hR3)
      clear hR3
      go_wp2_with fail
      go_ret2
      exact readTo_no HD.out rfl HL3.out
  | false =>
    obtain ⟨g0, g1⟩ := HG.out rfl
    have G1 := hid g1
    have HD := hid (HG0.out g0)
    clear g1
    by_cases hlt : xs.length < N
    · go_upto_region 10 with (fail)
      clear x1 x2
      obtain ⟨Y, hY⟩ : ∃ Y, Y = wx.heap.size := ⟨_, rfl⟩
      obtain ⟨w3, hw3⟩ : ∃ w3, w3 = wx.alloc (.cells #[.int .i64 0, .slice none 0 0] 37 (0, 0)) := ⟨_, rfl⟩
      have hL3 : Later wx w3 := by rw [hw3]; exact Later.alloc _ _
      have HX3 : Hid (w3.heap[Y]? = some (.cells #[.int .i64 0, .slice none 0 0] 37 (0, 0))) := hid (by rw [hw3, hY]; exact obj_new _ _)
      have HI3 := hid (HIX.out.later hL3)
      have HW3 := hid (hL3.keeps (fun b => b ≠ X))
      have HXY : Hid (X < Y) := hid (by rw [hY]; exact HIX.out.lt)
      have HYW : Hid (wx.heap.size ≤ Y) := hid (Nat.le_of_eq hY.symm)
      have hYX : Y ≠ X := Nat.ne_of_gt HXY.out
      have HSV : Hid (∀ k, (Value.slice a xs.length cp).ownBlock = some k → k < Y) := hid fun k hk => by
        obtain ⟨vs, hl, hor, hvs⟩ := HO.out
        rw [hY]
        exact (hor.lt k hk).2
      have HN1 : Hid (xs.length < N) := hid hlt
      rw [← hY, ← hw3]
      clear hY hw3 hL3 hlt
      go_wp2_with fail
      refine (ref_number X _ l m false _ HI3.out HLL.out).mono ?_
      rintro e w4 ⟨t, m1, b1, rfl, hi4, hk4, -, -, hy4, hn4⟩
      have HX4 := hid (hk4.obj hYX HX3.out)
      have HI4 := hid hi4
      have HW4 := hid (HW3.out.trans hk4)
      have HY4 := hid hy4
      have HN4 := hid hn4
      clear hi4 hk4 hy4 hn4 HX3 HI3 HW3
      have q0 := cell_obj (i := 0) HX4.out rfl
      have p0 := free_obj (i := 0) HX4.out
      go_upto_region 11 with (fail)
      clear q0 p0
      obtain ⟨w5, hw5⟩ : ∃ w5, w5 = w4.setCell ⟨Y, 0, none⟩ (.int .i64 t) := ⟨_, rfl⟩
      have HX5 : Hid (w5.heap[Y]? = some (.cells #[.int .i64 t, .slice none 0 0] 37 (0, 0))) := hid (by rw [hw5]; exact obj_setCell (i := 0) HX4.out _)
      have HI5 : Hid (InB w5 X (.slice av l.length cv) l m1 b1) := hid (by rw [hw5]; exact HI4.out.other HXY.out _)
      have HW5 : Hid (Keeps (fun b => b ≠ X) wx w5) := hid (by rw [hw5]; exact HW4.out.setCell (.inr HYW.out) _)
      rw [← hw5]
      clear hw5 HX4 HI4 HW4
      go_wp2_with fail
      refine (ref_number X _ l m1 b1 _ HI5.out HLL.out).mono ?_
      rintro e w6 ⟨k, m2, b2, rfl, hi6, hk6, -, hbb6, hy6, hn6⟩
      have HX6 := hid (hk6.obj hYX HX5.out)
      have HI6 := hid hi6
      have HW6 := hid (HW5.out.trans hk6)
      have HGOOD : Hid (b2 = false → dInt (l.drop m) = some (t, l.drop m1) ∧ dInt (l.drop m1) = some (k, l.drop m2)) := hid fun h => by
        have hb1 : b1 = false := by
          cases hb : b1 with
          | false => rfl
          | true => have := hbb6 hb; rw [h] at this; cases this
        exact ⟨HY4.out hb1, hy6 h⟩
      have HBAD : Hid (b2 = true → dRow (l.drop m) = none) := hid fun h => by
        cases hb : b1 with
        | true => exact dRow_none1 ((HN4.out hb).resolve_left (by simp))
        | false => exact dRow_none2 (HY4.out hb) ((hn6 h).resolve_left (by simp [hb]))
      have HXB : Hid (Y < w6.heap.size) := hid (Array.getElem?_eq_some_iff.1 HX6.out).1
      have HIB : Hid (X < w6.heap.size) := hid hi6.lt
      clear hi6 hk6 hbb6 hy6 hn6 HX5 HI5 HW5 HY4 HN4
      have HL6 := hid (keeps_later HL1.out (HK2.out.trans (HKX.out.trans HW6.out)) HXW.out)
      by_cases hk08 : k < 0 ∨ 8 < k
      · have HD2 : Hid (dAll l = none) := hid (dAll_rows (dRows_none HD.out G1.out (by
          cases hb : b2 with
          | true => exact HBAD.out hb
          | false => exact dRow_many (HGOOD.out hb).1 (HGOOD.out hb).2 hk08) (fun _ => by have := HN1.out; omega)))
        by_cases hk0 : k < 0
        · go_wp2_with fail
          go_ret2
          exact readTo_no HD2.out rfl HL6.out
        · have hk8 : 8 < k := by omega
          obtain ⟨K, rfl⟩ : ∃ K : Nat, k = K := ⟨k.toNat, by omega⟩
          have hk8' : 8 < K := by omega
          clear hk08
          go_wp2_with fail
          go_ret2
          exact readTo_no HD2.out rfl HL6.out
      obtain ⟨K, rfl⟩ : ∃ K : Nat, k = K := ⟨k.toNat, by omega⟩
      have hk8 : ¬ (8 : Int) < (K : Int) := by omega
      have hk8' : ¬ 8 < K := by omega
      have HK8 : Hid (K ≤ 8) := hid (by omega)
      clear hk08
      go_wp2_with fail
      clear hk8 hk8'
      obtain ⟨R2, hR2⟩ : ∃ RR_ : (Nat → Value) → World → Prop, RR_ = (fun us wy => ∃ (ys : List Val) (m3 : Nat) (bd : Bool) (va : Option Addr) (vc : Nat), us 10 = .int .i64 ys.length ∧ ys.length ≤ K ∧ wy.heap[Y]? = some (.cells #[.int .i64 t, .slice va ys.length vc] 37 (0, 0)) ∧ wy.ownsRow w6.heap.size 40 3 (.slice va ys.length vc) ys.length (valCells ys) ∧ InB wy X (.slice av l.length cv) l m3 bd ∧ Keeps (fun b => b ≠ X ∧ b ≠ Y) w6 wy ∧ (bd = false → b2 = false ∧ dMany dVal ys.length (l.drop m2) = some (ys, l.drop m3)) ∧ (bd = true → dRow (l.drop m) = none)) := ⟨_, rfl⟩
      obtain ⟨mu2, hmu2⟩ : ∃ mu : (Nat → Value) → World → Nat, mu = (fun us _ => K - (intOf (us 10)).toNat) := ⟨_, rfl⟩
      have HR2 := hid hR2; have Hmu2 := hid hmu2; clear hR2 hmu2
      refine wp_loop_frame' [false, false, false, false, false, false, false, false, false, false, true, true, false, false, false, false, false, false, false, false, false, false, false, false, false, false, false, false, false, false, false, false, false, false, false, false, false, false, false, false, false, false, false, false, false, false, false, false, false, false, true, true, true, true, true, true, true, true, true, true, true, true, true, true, true, true, true, true, true, true] R2 _ mu2 HR2.out ?_ ?_
      · exact ⟨[], m2, b2, none, 0, rfl, Nat.zero_le _, HX6.out, ⟨rfl, .inl ⟨rfl, rfl⟩⟩, HI6.out, Keeps.refl _ _, fun h => ⟨h, rfl⟩, HBAD.out⟩
      intro us2 wy hrel
      obtain ⟨ys, m3, bd, va, vc, h10, hyk, hx, hown, hi, hk, hgood, hbad⟩ := hrel
      simp only [frameOf, Nat.reduceAdd, h10]
      have Hh10 := hid h10; clear h10
      have HYK := hid hyk
      have HX := hid hx
      have HOW := hid hown
      have HIY := hid hi
      have HKY := hid hk
      have HGY := hid hgood
      have HBY2 := hid hbad
      clear hyk hx hown hi hk hgood hbad
      have x2 := cell_obj (i := 2) HIY.out.1 (v := .bool bd) rfl
      have HKWY : Hid (Keeps (fun b => b ≠ X) wx wy) := hid (((HW6.out.mono (S' := fun b => b ≠ X ∧ b < wx.heap.size) fun _ _ h => h.1).trans (HKY.out.mono fun _ _ h => ⟨h.1, by have := HYW.out; omega⟩)).mono fun _ hk h => ⟨h, hk⟩)
      cases bd with
      | true =>
        have HRN : Hid (dRow (l.drop m) = none) := hid (HBY2.out rfl)
        by_cases hd0 : ys.length < K
        all_goals
          have q0 := cell_obj (i := 0) HX.out (v := .int .i64 t) rfl
          have q1 := cell_obj (i := 1) HX.out (v := .slice va ys.length vc) rfl
          go_wp2_with fail
          clear q0 q1 x2
          refine (rvalid_row t ys _ _ ((owned_valsO HOW.out).vals.vals_mono fun _ _ => trivial)).mono ?_
          rintro e wv ⟨rfl, hLv⟩
          have HIV := hid (HIY.out.later hLv)
          have HXV := hid (hLv.obj HX.out)
          have HOWV := hid (own_later HOW.out hLv)
          have HKWV := hid (HKWY.out.more hLv)
          clear hLv
          have x2 := cell_obj (i := 2) HIV.out.1 (v := .bool true) rfl
          have z2 := free_obj (i := 2) HIV.out.1
          cases hv : validR ⟨t, ys⟩
          all_goals
            clear hv
            go_upto_region 21 with (fail)
            have hput := (HIV.out.put true)
            have HIZ := hid hput.1
            have HXZ := hid (hput.2.obj hYX HXV.out)
            have HOWZ := hid (own_keep HOWV.out hput.2 fun b hb _ => by have := HIB.out; omega)
            have HK2Z := hid (HKWV.out.trans hput.2)
            have HOZ := hid (HO.out.keep HK2Z.out fun b hb _ => by have := HX2.out; omega)
            have HKZ := hid (HKX.out.trans HK2Z.out)
            clear hput x2 z2
            generalize wv.setCell ⟨X, 2, none⟩ (.bool true) = wz at *
            have q0 := cell_obj (i := 0) HXZ.out (v := .int .i64 t) rfl
            have q1 := cell_obj (i := 1) HXZ.out (v := .slice va ys.length vc) rfl
            obtain ⟨vs, hl, hor, hvs⟩ := HOZ.out
            have HHL := hid hl
            have HOR := hid hor
            have HVS := hid hvs
            clear hor hvs
            go_wp2_with (at_builtin; go_loud (refine wpList_append_obj rfl _ _ 22 rfl 37 2 32 Tryd.underlying22 infoRw rfl (own_later HOR.out (Later.alloc _ _)) (news := [.int .i64 t, .slice va ys.length vc]) rfl (obj_at (by simp)) rfl (oneCell_row rfl) ?c1 ?c2 ?c3 ?_))
            case c1 => have := HN1.out; have := HNL.out; have := HLL.out; omega
            case c2 => have := HN1.out; have := HNL.out; have := HLL.out; unfold maxLen; omega
            case c3 => have := HKZ.out.size; (try simp only [World.size_alloc]); omega
            intro v7 w7 hA7
            have hlow := hA7.low (own_later HOR.out (Later.alloc wz (.cells #[.int .i64 t, .slice va ys.length vc] 37 (0, 0))))
            have hne := ((vals_away HOWZ.out rfl (B := w2.heap.size) (by have := HKX.out.size; have := HYW.out; have := HXB.out; omega) (ob := (Value.slice a xs.length cp).ownBlock) (fun k hk => by have := HSV.out k hk; have := HXB.out; omega)).o_later (Later.alloc wz (.cells #[.int .i64 t, .slice va ys.length vc] 37 (0, 0))))
            have hR7 : RowsOwnF w2.heap.size w7 v7 (xs ++ [⟨t, ys⟩]) := rows_add HHL.out (fun i hi => (HVS.out i hi).o_later (Later.alloc _ _)) hne hA7
            have hB7 := (HIZ.out.later (Later.alloc wz (.cells #[.int .i64 t, .slice va ys.length vc] 37 (0, 0)))).keep hlow fun b hb => Nat.lt_of_le_of_lt hb HX2.out
            have hK7 := (HKZ.out.more (Later.alloc wz (.cells #[.int .i64 t, .slice va ys.length vc] 37 (0, 0)))).low hlow
            obtain ⟨a7, c7, rfl⟩ := ownsRow_slice hA7.own
            have HR7 := hid hR7; have HB7 := hid hB7; have HK7 := hid hK7
            clear hR7 hB7 hK7 hlow hne hA7 q0 q1
            go_wp2_with fail
            have hlen : (xs ++ [(⟨t, ys⟩ : Row)]).length = xs.length + 1 := by simp
            have hw9 : wrap64 ((xs.length : Int) + 1) = ((xs.length + 1 : Nat) : Int) := by have := HN1.out; have := HNL.out; have := HLL.out; unfold wrap64; omega
            simp only [hw9]
            refine Round.mk' HR1.out Hmu1.out rfl ?_ ?_
            · exact ⟨xs ++ [⟨t, ys⟩], m3, true, a7, c7, by rw [hlen]; rfl, by rw [hlen]; rfl, by rw [hlen]; exact HN1.out, by rw [hlen]; exact HR7.out, HB7.out, HK7.out, fun h => (by cases h), fun _ => dAll_rows (dRows_none HD.out G1.out HRN.out fun _ => by have := HN1.out; omega)⟩
            · rw [Hh7.out]; have := HN1.out; simp [intOf, slots]; omega
      | false =>
        obtain ⟨g2, g3⟩ := HGY.out rfl
        have G3 := hid g3
        have HGO := hid (HGOOD.out g2)
        have HB2 := hid g2
        clear g3 g2
        by_cases hd0 : ys.length < K
        · have HD0 := hid hd0
          go_upto_region 17 with (fail)
          go_wp2_with fail
          refine (ref_value X _ l m3 false _ HIY.out HLL.out).mono ?_
          rintro e w8 ⟨x, m4, b4, rfl, hi8, hk8, -, hy8, hn8⟩
          have HI8 := hid hi8
          have HX8 := hid (hk8.obj hYX HX.out)
          have HOW8 := hid (own_keep HOW.out hk8 fun b hb _ => by have := HIB.out; omega)
          have HK8' := hid (HKY.out.trans (hk8.mono (S' := fun b => b ≠ X ∧ b ≠ Y) fun _ _ h => h.1))
          have HY8 := hid hy8
          have HN8 := hid hn8
          clear hi8 hk8 hy8 hn8 x2
          go_upto_region 18 with (fail)
          obtain ⟨V, hV⟩ : ∃ V, V = w8.heap.size := ⟨_, rfl⟩
          obtain ⟨w9, hw9⟩ : ∃ w9, w9 = w8.alloc (.cells #[.int .i64 x.k, .int .i64 x.n, .string x.t] 40 (0, 0)) := ⟨_, rfl⟩
          have hL9 : Later w8 w9 := by rw [hw9]; exact Later.alloc _ _
          have HV9 : Hid (w9.heap[V]? = some (.cells #[.int .i64 x.k, .int .i64 x.n, .string x.t] 40 (0, 0))) := hid (by rw [hw9, hV]; exact obj_new _ _)
          have HX9 := hid (hL9.obj HX8.out)
          have HI9 := hid (HI8.out.later hL9)
          have HOW9 := hid (own_later HOW8.out hL9)
          have HK9 := hid (HK8'.out.more hL9)
          first | rw [← hV, ← hw9] | (trace_state; fail)
          clear hV hw9 hL9 HX8 HI8 HOW8 HK8'
          have q0 := cell_obj (i := 0) HV9.out rfl
          have q1 := cell_obj (i := 1) HV9.out rfl
          have q2 := cell_obj (i := 2) HV9.out rfl
          have r1 := cell_obj (i := 1) HX9.out (v := .slice va ys.length vc) rfl
          have p1 := free_obj (i := 1) HX9.out
          go_wp2_with (at_builtin; go_loud (refine wpList_append_obj rfl _ _ 35 rfl 40 3 32 Tryd.underlying35 infoVl rfl (own_later HOW9.out (Later.alloc _ _)) (news := [.int .i64 x.k, .int .i64 x.n, .string x.t]) rfl (obj_at (by simp)) rfl (val_one x) ?c1 ?c2 ?c3 ?_))
          case c1 => have := HYK.out; have := HK8.out; omega
          case c2 => have := HYK.out; have := HK8.out; unfold maxLen; omega
          case c3 => have := HK9.out.size; simp only [World.size_alloc]; omega
          intro v7 w7 hA7
          have hown6 := own_later HOW9.out (Later.alloc w9 (.cells #[.int .i64 x.k, .int .i64 x.n, .string x.t] 40 (0, 0)))
          have hlow := hA7.low hown6
          have hX7 := hA7.obj ((Later.alloc w9 (.cells #[.int .i64 x.k, .int .i64 x.n, .string x.t] 40 (0, 0))).obj HX9.out) (fun e => by have := (hown6.lt _ e.symm).1; have := HXB.out; omega)
          have hR7 := (HI9.out.later (Later.alloc w9 (.cells #[.int .i64 x.k, .int .i64 x.n, .string x.t] 40 (0, 0)))).keep hlow fun b hb => Nat.lt_of_le_of_lt hb HIB.out
          have hK7 := (HK9.out.more (Later.alloc w9 (.cells #[.int .i64 x.k, .int .i64 x.n, .string x.t] 40 (0, 0)))).low hlow
          obtain ⟨a7, c7, rfl⟩ := ownsRow_slice hA7.own
          have HX8 := hid (obj_setCell (i := 1) hX7 (.slice a7 (ys.length + 1) c7))
          have HO8 := hid (own_set hA7.own (p := ⟨Y, 1, none⟩) (own_ne hA7.own hX7 (by decide)) (.slice a7 (ys.length + 1) c7))
          have HR8 := hid (hR7.other (p := ⟨Y, 1, none⟩) HXY.out (.slice a7 (ys.length + 1) c7))
          have HK88 := hid (hK7.setCell (p := ⟨Y, 1, none⟩) (.inl (by simp)) (.slice a7 (ys.length + 1) c7))
          clear q0 q1 q2 r1 p1
          have r1 := cell_obj (i := 1) hX7 (v := .slice va ys.length vc) rfl
          have p1 := free_obj (i := 1) hX7
          clear hown6 hlow hX7 hR7 hK7 hA7
          simp only [List.setIfInBounds_toArray, List.set] at HX8
          go_wp2_with fail
          have hlen : (ys ++ [x]).length = ys.length + 1 := by simp
          have hw9 : wrap64 ((ys.length : Int) + 1) = ((ys.length + 1 : Nat) : Int) := by have := HD0.out; have := HK8.out; unfold wrap64; omega
          try simp only [hw9]
          refine Round.mk' HR2.out Hmu2.out rfl ?_ ?_
          · exact ⟨ys ++ [x], m4, b4, a7, c7, by rw [hlen]; rfl, by rw [hlen]; exact HD0.out, by rw [hlen]; exact HX8.out, by rw [hlen, valCells_snoc]; exact HO8.out, HR8.out, HK88.out, fun h => ⟨HB2.out, by rw [hlen]; exact dMany_step G3.out (HY8.out h)⟩, fun h => dRow_none3 HGO.out.1 HGO.out.2 G3.out ((HN8.out h).resolve_left (by simp)) (fun _ => by have := HD0.out; omega)⟩
          · rw [Hh10.out]; have := HD0.out; simp [intOf, slots]; omega
        · have hyK : ys.length = K := by have := HYK.out; omega
          have HROW := hid (dRow_some HGO.out.1 (by rw [hyK]; exact HGO.out.2) G3.out)
          clear hyK
          have q0 := cell_obj (i := 0) HX.out (v := .int .i64 t) rfl
          have q1 := cell_obj (i := 1) HX.out (v := .slice va ys.length vc) rfl
          go_wp2_with fail
          clear q0 q1 x2
          refine (rvalid_row t ys _ _ ((owned_valsO HOW.out).vals.vals_mono fun _ _ => trivial)).mono ?_
          rintro e wv ⟨rfl, hLv⟩
          have HIV := hid (HIY.out.later hLv)
          have HXV := hid (hLv.obj HX.out)
          have HOWV := hid (own_later HOW.out hLv)
          have HKWV := hid (HKWY.out.more hLv)
          clear hLv
          have x2 := cell_obj (i := 2) HIV.out.1 (v := .bool false) rfl
          have z2 := free_obj (i := 2) HIV.out.1
          cases hv : validR ⟨t, ys⟩ with
          | true =>
            have HRS : Hid (dRow (l.drop m) = some (⟨t, ys⟩, l.drop m3)) := hid (by rw [HROW.out, if_pos hv])
            clear hv
            go_upto_region 21 with (fail)
            have hput := (HIV.out.put false)
            have HIZ := hid hput.1
            have HXZ := hid (hput.2.obj hYX HXV.out)
            have HOWZ := hid (own_keep HOWV.out hput.2 fun b hb _ => by have := HIB.out; omega)
            have HK2Z := hid (HKWV.out.trans hput.2)
            have HOZ := hid (HO.out.keep HK2Z.out fun b hb _ => by have := HX2.out; omega)
            have HKZ := hid (HKX.out.trans HK2Z.out)
            clear hput x2 z2
            generalize wv.setCell ⟨X, 2, none⟩ (.bool false) = wz at *
            have q0 := cell_obj (i := 0) HXZ.out (v := .int .i64 t) rfl
            have q1 := cell_obj (i := 1) HXZ.out (v := .slice va ys.length vc) rfl
            obtain ⟨vs, hl, hor, hvs⟩ := HOZ.out
            have HHL := hid hl
            have HOR := hid hor
            have HVS := hid hvs
            clear hor hvs
            go_wp2_with (at_builtin; go_loud (refine wpList_append_obj rfl _ _ 22 rfl 37 2 32 Tryd.underlying22 infoRw rfl (own_later HOR.out (Later.alloc _ _)) (news := [.int .i64 t, .slice va ys.length vc]) rfl (obj_at (by simp)) rfl (oneCell_row rfl) ?c1 ?c2 ?c3 ?_))
            case c1 => have := HN1.out; have := HNL.out; have := HLL.out; omega
            case c2 => have := HN1.out; have := HNL.out; have := HLL.out; unfold maxLen; omega
            case c3 => have := HKZ.out.size; (try simp only [World.size_alloc]); omega
            intro v7 w7 hA7
            have hlow := hA7.low (own_later HOR.out (Later.alloc wz (.cells #[.int .i64 t, .slice va ys.length vc] 37 (0, 0))))
            have hne := ((vals_away HOWZ.out rfl (B := w2.heap.size) (by have := HKX.out.size; have := HYW.out; have := HXB.out; omega) (ob := (Value.slice a xs.length cp).ownBlock) (fun k hk => by have := HSV.out k hk; have := HXB.out; omega)).o_later (Later.alloc wz (.cells #[.int .i64 t, .slice va ys.length vc] 37 (0, 0))))
            have hR7 : RowsOwnF w2.heap.size w7 v7 (xs ++ [⟨t, ys⟩]) := rows_add HHL.out (fun i hi => (HVS.out i hi).o_later (Later.alloc _ _)) hne hA7
            have hB7 := (HIZ.out.later (Later.alloc wz (.cells #[.int .i64 t, .slice va ys.length vc] 37 (0, 0)))).keep hlow fun b hb => Nat.lt_of_le_of_lt hb HX2.out
            have hK7 := (HKZ.out.more (Later.alloc wz (.cells #[.int .i64 t, .slice va ys.length vc] 37 (0, 0)))).low hlow
            obtain ⟨a7, c7, rfl⟩ := ownsRow_slice hA7.own
            have HR7 := hid hR7; have HB7 := hid hB7; have HK7 := hid hK7
            clear hR7 hB7 hK7 hlow hne hA7 q0 q1
            go_wp2_with fail
            have hlen : (xs ++ [(⟨t, ys⟩ : Row)]).length = xs.length + 1 := by simp
            have hw9 : wrap64 ((xs.length : Int) + 1) = ((xs.length + 1 : Nat) : Int) := by have := HN1.out; have := HNL.out; have := HLL.out; unfold wrap64; omega
            simp only [hw9]
            refine Round.mk' HR1.out Hmu1.out rfl ?_ ?_
            · exact ⟨xs ++ [⟨t, ys⟩], m3, false, a7, c7, by rw [hlen]; rfl, by rw [hlen]; rfl, by rw [hlen]; exact HN1.out, by rw [hlen]; exact HR7.out, HB7.out, HK7.out, fun _ => ⟨g0, by rw [hlen]; exact dMany_step G1.out HRS.out⟩, fun h => (by cases h)⟩
            · rw [Hh7.out]; have := HN1.out; simp [intOf, slots]; omega
          | false =>
            have HRN : Hid (dRow (l.drop m) = none) := hid (by rw [HROW.out, if_neg (by simp [hv])])
            clear hv
            go_upto_region 21 with (fail)
            have hput := (HIV.out.put true)
            have HIZ := hid hput.1
            have HXZ := hid (hput.2.obj hYX HXV.out)
            have HOWZ := hid (own_keep HOWV.out hput.2 fun b hb _ => by have := HIB.out; omega)
            have HK2Z := hid (HKWV.out.trans hput.2)
            have HOZ := hid (HO.out.keep HK2Z.out fun b hb _ => by have := HX2.out; omega)
            have HKZ := hid (HKX.out.trans HK2Z.out)
            clear hput x2 z2
            generalize wv.setCell ⟨X, 2, none⟩ (.bool true) = wz at *
            have q0 := cell_obj (i := 0) HXZ.out (v := .int .i64 t) rfl
            have q1 := cell_obj (i := 1) HXZ.out (v := .slice va ys.length vc) rfl
            obtain ⟨vs, hl, hor, hvs⟩ := HOZ.out
            have HHL := hid hl
            have HOR := hid hor
            have HVS := hid hvs
            clear hor hvs
            go_wp2_with (at_builtin; go_loud (refine wpList_append_obj rfl _ _ 22 rfl 37 2 32 Tryd.underlying22 infoRw rfl (own_later HOR.out (Later.alloc _ _)) (news := [.int .i64 t, .slice va ys.length vc]) rfl (obj_at (by simp)) rfl (oneCell_row rfl) ?c1 ?c2 ?c3 ?_))
            case c1 => have := HN1.out; have := HNL.out; have := HLL.out; omega
            case c2 => have := HN1.out; have := HNL.out; have := HLL.out; unfold maxLen; omega
            case c3 => have := HKZ.out.size; (try simp only [World.size_alloc]); omega
            intro v7 w7 hA7
            have hlow := hA7.low (own_later HOR.out (Later.alloc wz (.cells #[.int .i64 t, .slice va ys.length vc] 37 (0, 0))))
            have hne := ((vals_away HOWZ.out rfl (B := w2.heap.size) (by have := HKX.out.size; have := HYW.out; have := HXB.out; omega) (ob := (Value.slice a xs.length cp).ownBlock) (fun k hk => by have := HSV.out k hk; have := HXB.out; omega)).o_later (Later.alloc wz (.cells #[.int .i64 t, .slice va ys.length vc] 37 (0, 0))))
            have hR7 : RowsOwnF w2.heap.size w7 v7 (xs ++ [⟨t, ys⟩]) := rows_add HHL.out (fun i hi => (HVS.out i hi).o_later (Later.alloc _ _)) hne hA7
            have hB7 := (HIZ.out.later (Later.alloc wz (.cells #[.int .i64 t, .slice va ys.length vc] 37 (0, 0)))).keep hlow fun b hb => Nat.lt_of_le_of_lt hb HX2.out
            have hK7 := (HKZ.out.more (Later.alloc wz (.cells #[.int .i64 t, .slice va ys.length vc] 37 (0, 0)))).low hlow
            obtain ⟨a7, c7, rfl⟩ := ownsRow_slice hA7.own
            have HR7 := hid hR7; have HB7 := hid hB7; have HK7 := hid hK7
            clear hR7 hB7 hK7 hlow hne hA7 q0 q1
            go_wp2_with fail
            have hlen : (xs ++ [(⟨t, ys⟩ : Row)]).length = xs.length + 1 := by simp
            have hw9 : wrap64 ((xs.length : Int) + 1) = ((xs.length + 1 : Nat) : Int) := by have := HN1.out; have := HNL.out; have := HLL.out; unfold wrap64; omega
            simp only [hw9]
            refine Round.mk' HR1.out Hmu1.out rfl ?_ ?_
            · exact ⟨xs ++ [⟨t, ys⟩], m3, true, a7, c7, by rw [hlen]; rfl, by rw [hlen]; rfl, by rw [hlen]; exact HN1.out, by rw [hlen]; exact HR7.out, HB7.out, HK7.out, fun h => (by cases h), fun _ => dAll_rows (dRows_none HD.out G1.out HRN.out fun _ => by have := HN1.out; omega)⟩
            · rw [Hh7.out]; have := HN1.out; simp [intOf, slots]; omega
    · have hxN : xs.length = N := by have := HXN.out; omega
      have HR : Hid (dRows l = some (xs, l.drop m)) := hid (dRows_some (by rw [hxN]; exact HD.out) G1.out)
      clear hxN
      by_cases hm : m = l.length
      · subst hm
        have HA : Hid (dAll l = some xs) := hid (dAll_some (by rw [HR.out, List.drop_length]))
        go_wp2_with fail
        refine wp_region_lex (by kernel_rfl) (by kernel_rfl) Later Later.refl Later.trans (fun _ => none) (fun _ _ _ _ _ h => by cases h) ?_
        simp only [numbered, Nat.reduceAdd]
        refine LexS.out ?_
        iterate 17
          first
          | (refine LexS.skip rfl ?_; simp only [Act.put, List.setIfInBounds_toArray, List.set])
          | (refine LexS.one' rfl rfl ?_
             apply Exists.intro
             refine ⟨fun w hR hF => ?_, ?_⟩
             · have hP := hR
               repeat (first | replace hP := Later.of_drew hP | replace hP := Later.of_drewN hP | replace hP := Later.of_alloc hP)
               have hcs := hR.cells
               have zx1 := hP.cell x1
               have zx2 := hP.cell x2
               clear hR hF hP
               go_simp
               first | done | rfl
             simp only [Act.put, List.setIfInBounds_toArray, List.set])
        refine LexS.nil ?_
        intro w3 hR3 hF9
        clear hF9
        repeat (first | replace hR3 := Later.of_drew hR3 | replace hR3 := Later.of_drewN hR3 | replace hR3 := Later.of_alloc hR3)
        have HL3 := hid (Later.trans _ _ _ HLX.out hR3)
        have HO3 := hid ((HO.out.keep (hR3.keeps (fun _ => True)) fun _ _ _ => trivial).lower HL2.out.size)
        clear hR3
        go_wp2_with fail
        go_ret2
        exact readTo_yes HA.out rfl HO3.out HL3.out
      · have HA : Hid (dAll l = none) := hid (dAll_more HR.out fun h => hm (by
          have := congrArg List.length h
          rw [List.length_drop, List.length_nil] at this
          have := HIX.out.2.2
          omega))
        go_wp2_with fail
        refine wp_region_lex (by kernel_rfl) (by kernel_rfl) Later Later.refl Later.trans (fun _ => none) (fun _ _ _ _ _ h => by cases h) ?_
        simp only [numbered, Nat.reduceAdd]
        refine LexS.out ?_
        iterate 17
          first
          | (refine LexS.skip rfl ?_; simp only [Act.put, List.setIfInBounds_toArray, List.set])
          | (refine LexS.one' rfl rfl ?_
             apply Exists.intro
             refine ⟨fun w hR hF => ?_, ?_⟩
             · have hP := hR
               repeat (first | replace hP := Later.of_drew hP | replace hP := Later.of_drewN hP | replace hP := Later.of_alloc hP)
               have hcs := hR.cells
               have zx1 := hP.cell x1
               have zx2 := hP.cell x2
               clear hR hF hP
               go_simp
               first | done | rfl
             simp only [Act.put, List.setIfInBounds_toArray, List.set])
        refine LexS.nil ?_
        intro w3 hR3 hF9
        clear hF9
        repeat (first | replace hR3 := Later.of_drew hR3 | replace hR3 := Later.of_drewN hR3 | replace hR3 := Later.of_alloc hR3)
        have HL3 := hid (Later.trans _ _ _ HLX.out hR3)
        clear hR3
        have hme : ((m : Int) == ((l.length : Nat) : Int)) = false := beq_false_of_ne (by omega)
        simp only [hme]
        go_wp2_with fail
        go_ret2
        exact readTo_no HA.out rfl HL3.out
end Go.Proofs.YthfgjmdmcoogpaaDoor
