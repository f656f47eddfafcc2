/-
  PROVED HERE: the contract of Store.Save.
-/
import Derived.Test.YtgcnchmnciihnaaGreatDoorGSavePlain
namespace Go.Proofs.YtgcnchmnciihnaaGreatDoor
set_option linter.unusedSimpArgs false
set_option linter.unusedVariables false
open Go Go.RowKit

/-- what is put behind bytes of one's own leaves what was there before. -/
theorem put_later {w0 w w' : World} {e : TypeId} {B : Nat} {v v' : Value} {l m : List UInt8} (hL : Later w0 w) (ho : w.ownsRow B e 1 v m.length (byteCells m)) (hB : w0.heap.size ≤ B) (hp : Put e w B v l v' w') : Later w0 w' :=
  later_keep (B := w0.heap.size) hL (hp.keep.mono fun b _ hb e => by have := (ownb ho b e.symm).1; omega) (Nat.le_refl _)
theorem put_obj {w w' : World} {e : TypeId} {B : Nat} {v v' : Value} {l m : List UInt8} (ho : w.ownsRow B e 1 v m.length (byteCells m)) (hp : Put e w B v l v' w') {b : Nat} {cs : Array Value} {t : TypeId} {fr : Nat × Nat} (h : w.heap[b]? = some (.cells cs t fr)) (hne : e ≠ t) : w'.heap[b]? = some (.cells cs t fr) :=
  hp.keep.obj (fun e' => own_ne ho h hne e'.symm) h
def PiecesOwn (B : Nat) (w : World) (v : Value) (l : List (Int × List UInt8)) : Prop := ∃ xs : List PX, xs.map PX.pair = l ∧ OwnPc B w v xs ∧ DeepPc B w xs
def SaveTo (w : World) (lo hi : Int) (L : List CellP) (e : Ending) (w' : World) : Prop := ∃ v, e = .returned v ∧ PiecesOwn w.heap.size w' v (pieces lo hi L) ∧ Later w w'
structure SaveSt (w : World) (lo hi : Int) (L : List CellP) (k T : Nat) (v : Value) (xs : List PX) (wx : World) : Prop where
  box : wx.heap[T]? = some (.cells #[.int .i64 (lo + k)] 3 (0, 0))
  geT : w.heap.size ≤ T
  own : OwnPc w.heap.size wx v xs
  deep : DeepPc w.heap.size wx xs
  is : xs.map PX.pair = piecesN lo L k
  later : Later w wx
  le : lo + k ≤ hi
theorem piecesN_succ (lo : Int) (L : List CellP) (k : Nat) : piecesN lo L (k + 1) = piecesN lo L k ++ (if (L.filter (inGroup (lo + k))).length = 0 then [] else [(lo + k, sealed (encCells (L.filter (inGroup (lo + k)))))]) := rfl
theorem SaveSt.next {w w2 : World} {lo hi : Int} {L : List CellP} {k : Nat} {v : Value} {xs : List PX} (hown : OwnPc w.heap.size w2 v xs) (hdeep : DeepPc w.heap.size w2 xs) (his : xs.map PX.pair = piecesN lo L (k + 1)) (hL : Later w w2) (hle : lo + k < hi) :
    SaveSt w lo hi L (k + 1) w2.heap.size v xs (w2.alloc (.cells #[.int .i64 (lo + k + 1)] 3 (0, 0))) := by
  have hLa := Later.alloc w2 (.cells #[.int .i64 (lo + k + 1)] 3 (0, 0))
  refine ⟨?_, hL.size, owns_at hown hLa, hdeep.later hLa, his, Later.trans _ _ _ hL hLa, by omega⟩
  rw [obj_new, show lo + (k : Int) + 1 = lo + ((k + 1 : Nat) : Int) by omega]
theorem SaveSt.at {w wx w1 : World} {lo hi : Int} {L : List CellP} {k T : Nat} {v : Value} {xs : List PX} (h : SaveSt w lo hi L k T v xs wx) (k1 : Later wx w1) : SaveSt w lo hi L k T v xs w1 :=
  { box := k1.obj h.box, geT := h.geT, own := owns_at h.own k1, deep := h.deep.later k1, is := h.is, later := Later.trans _ _ _ h.later k1, le := h.le }
theorem piecesN_len (lo : Int) (L : List CellP) : ∀ n, (piecesN lo L n).length ≤ n
  | 0 => Nat.le_refl _
  | n + 1 => by
    have := piecesN_len lo L n
    unfold piecesN
    rw [List.length_append]
    split <;> simp <;> omega
def boxInt (w : World) (v : Value) : Int := match v with
  | .pointer (some p) => match w.cell? p with
    | some (.int _ n) => n
    | _ => 0
  | _ => 0
theorem boxInt_eq {w : World} {T : Nat} {n : Int} {t : TypeId} (h : w.heap[T]? = some (.cells #[.int .i64 n] t (0, 0))) : boxInt w (.pointer (some ⟨T, 0, none⟩)) = n := by
  have := cell_obj (i := 0) h (v := .int .i64 n) rfl
  unfold boxInt
  simp only
  rw [this]
section
variable {V : Nat → Prop} {S M : Nat} {lo hi : Int} {L : List CellP}
set_option maxRecDepth 100000 in
set_option maxHeartbeats 8000000 in
theorem save_any (w : World) (h : StAt V w S M lo hi L) (ht : PowTab w) : Calls Tryz.prog 9 #[.pointer (some ⟨S, 0, none⟩)] w (SaveTo w lo hi L) := by
  have HH := hid h; have HT := hid ht
  obtain ⟨r1, r2, r3⟩ := h.rng
  have HR := hid h.rng
  have c0 := cell_obj (i := 0) h.obj (v := .int .i64 lo) rfl
  clear h ht
  go_enter Tryz.func9, Tryz.ntmps9
  go_wp2_with fail
  obtain ⟨R1, hR1⟩ : ∃ RR_ : (Nat → Value) → World → Prop, RR_ = (fun us wx => ∃ (k T : Nat) (a : Option Addr) (c : Nat) (xs : List PX), us 3 = .pointer (some ⟨T, 0, none⟩) ∧ us 2 = .slice a xs.length c ∧ SaveSt w lo hi L k T (.slice a xs.length c) xs wx) := ⟨_, rfl⟩
  obtain ⟨mu1, hmu1⟩ : ∃ mu : (Nat → Value) → World → Nat, mu = (fun us wx => (hi - boxInt wx (us 3)).toNat) := ⟨_, rfl⟩
  have HR1 := hid hR1; have Hmu1 := hid hmu1; clear hR1 hmu1
  refine wp_loop_frame' [false, false, true, true, true, true, false, true, false, true, true, true, false, false, false, false, true, true, true, true, true, true, true, true, true, true, true, true, true, true, true, true, true, true, true, true, true, true, true, true, true, true, true, true, true, true, true, true, true, true, true, true, true, true, true, true, true, true, true, true, true, true, true, true, true, true, true, true, true, true, true, true, true, true, true, true, true, true, true, true, true, true, true, true, true] R1 _ mu1 HR1.out ?_ ?_
  · exact ⟨0, _, none, 0, [], rfl, rfl, ⟨(obj_new w _).trans (by simp), Nat.le_refl _, ⟨rfl, .inl ⟨rfl, rfl⟩⟩, DeepPc.nil _ _, rfl, Later.alloc _ _, by simpa using r2⟩⟩
  clear c0 r1 r2 r3
  intro us1 wx hrel
  obtain ⟨k, T, a, c, xs, h3, h2, hst⟩ := hrel
  simp only [frameOf, Nat.reduceAdd, h3, h2]
  have Hh3 := hid h3; clear h3
  have Hh2 := hid h2; clear h2
  go_upto_region 2 with (fail)
  have HST := hid hst
  clear hst
  have HBX0 : Hid (boxInt wx (us1 3) = lo + k) := hid (by rw [Hh3.out]; exact boxInt_eq HST.out.box)
  have s1 := cell_obj (i := 1) (HST.out.later.obj HH.out.obj) (v := .int .i64 hi) rfl
  have g0 := cell_obj (i := 0) HST.out.box (v := .int .i64 (lo + k)) rfl
  refine wp_region_lex (by kernel_rfl) (by kernel_rfl) Later Later.refl Later.trans (fun _ => none) (fun _ _ _ _ _ h => by cases h) ?_
  simp only [numbered, Nat.reduceAdd]
  refine LexS.out ?_
  iterate 6
    first
    | (refine LexS.skip rfl ?_; simp only [Act.put, List.setIfInBounds_toArray, List.set])
    | (refine LexS.one' rfl rfl ?_
       apply Exists.intro
       refine ⟨fun w hR hF => ?_, ?_⟩
       · have hP := hR
         repeat (first | replace hP := Later.of_drew hP | replace hP := Later.of_drewN hP | replace hP := Later.of_alloc hP)
         have hcs := hR.cells
         have zg0 := hP.cell g0
         have zs1 := hP.cell s1
         clear hR hF hP
         go_simp
         first | done | rfl
       simp only [Act.put, List.setIfInBounds_toArray, List.set])
  refine LexS.nil ?_
  intro w1 hR1 hF9
  clear hF9
  repeat (first | replace hR1 := Later.of_drew hR1 | replace hR1 := Later.of_drewN hR1 | replace hR1 := Later.of_alloc hR1)
  have HR1 := hid hR1
  clear hR1 g0 s1
  by_cases hlt : lo + (k : Int) < hi
  · have HLT := hid hlt
    have HS1 := hid (HST.out.at HR1.out)
    clear HST HR1
    go_wp2_with fail
    refine (some_any w1 (HH.out.later HS1.out.later) 26 #[.pointer (some ⟨T, 0, none⟩)] (inGroup (lo + k)) (enters_of Tryz.func26 (by kernel_rfl) rfl) (fun W c u hL hc hu => by
      have := pick_group (lo + k) T c u W hu (HH.out.ok c hc) (HT.out.later (Later.trans _ _ _ HS1.out.later hL)) (hL.obj HS1.out.box)
      simpa [inGroup] using this)).mono ?_
    rintro e w2 ⟨sv, rfl, ⟨ks, hks, hok, hheld⟩, hL2⟩
    obtain ⟨sa, sc, hsv⟩ := ownsRow_slice hok
    subst hsv
    have HS2 := hid (HS1.out.at hL2)
    have HKS := hid hks; have HOK := hid hok; have HHD := hid hheld
    have hkl : ks.length = (L.filter (inGroup (lo + k))).length := by rw [← hks, List.length_map]
    have HKL := hid hkl
    have hkn : ks.length ≤ 2097152 := by have h1 := List.length_filter_le (inGroup (lo + k)) L; have := HH.out.len; omega
    have HKN := hid hkn
    have HZ := hid hL2.size
    have hr1 : lo + (k : Int) + 1 ≤ 9223372036854775807 := by have := HR.out; omega
    have hr0 : 0 ≤ lo + (k : Int) := by have := HR.out; omega
    clear hks hok hheld hL2 hkl hkn hlt
    by_cases h0 : ks.length = 0
    · have H0 := hid h0
      have h0' : ((ks.length : Int) == 0) = true := by rw [h0]; rfl
      have g2 := cell_obj (i := 0) HS2.out.box (v := .int .i64 (lo + k)) rfl
      clear h0
      go_wp2_with fail
      have HN := hid (SaveSt.next (w2 := w2) (k := k) HS2.out.own HS2.out.deep (by rw [HS2.out.is, piecesN_succ, if_pos (by rw [← HKL.out]; exact H0.out), List.append_nil]) HS2.out.later HLT.out)
      refine Round.mk' HR1.out Hmu1.out rfl ?_ ?_
      · exact ⟨k + 1, w2.heap.size, a, c, xs, rfl, rfl, HN.out⟩
      · rw [Hh3.out]
        have hm1 := HBX0.out
        rw [Hh3.out] at hm1
        rw [hm1]
        show (hi - boxInt _ (.pointer (some ⟨w2.heap.size, 0, none⟩))).toNat < _
        rw [boxInt_eq (obj_new _ _)]
        have := HLT.out
        omega
    · have h0' : ((ks.length : Int) == 0) = false := by rw [beq_eq_false_iff_ne]; omega
      have H0 := hid h0
      have hkn' : ks.length ≤ 2097152 := HKN.out
      clear h0
      go_wp2_with fail
      refine (put_int w2.heap.size (.slice none 0 0) [] ks.length w2 (wf64 (by omega) (by omega)) ⟨rfl, .inl ⟨rfl, rfl⟩⟩ (Nat.le_refl _) (by simp)).mono ?_
      rintro e w3 ⟨v3, rfl, hp3⟩
      have HO3 := hid hp3.own
      have HL3 := hid (hp3.later rfl)
      clear hp3
      go_wp2_with fail
      obtain ⟨R2, hR2⟩ : ∃ RR_ : (Nat → Value) → World → Prop, RR_ = (fun us wy => ∃ (j : Nat) (bv : Value), us 35 = .int .i64 j ∧ us 5 = bv ∧ j ≤ ks.length ∧ wy.ownsRow w2.heap.size 5 1 bv (encInt ks.length ++ ((ks.take j).map (·.cell)).flatMap encCell).length (byteCells (encInt ks.length ++ ((ks.take j).map (·.cell)).flatMap encCell)) ∧ Later w2 wy) := ⟨_, rfl⟩
      obtain ⟨mu2, hmu2⟩ : ∃ mu : (Nat → Value) → World → Nat, mu = (fun us _ => ks.length - (intOf (us 35)).toNat) := ⟨_, rfl⟩
      have HR2 := hid hR2; have Hmu2 := hid hmu2; clear hR2 hmu2
      refine wp_loop_frame' [false, false, false, false, false, true, false, true, false, true, false, false, false, false, false, false, false, false, false, false, false, false, false, false, false, false, false, false, false, false, false, false, false, false, false, true, true, true, true, true, true, true, true, true, true, true, true, true, true, true, true, true, true, true, true, true, true, true, true, true, true, true, true, true, true, true, true, true, true, true, true, true, true] R2 _ mu2 HR2.out ?_ ?_
      · exact ⟨0, v3, rfl, rfl, Nat.zero_le _, by simpa using HO3.out, HL3.out⟩
      clear HO3 HL3 h0' hkn'
      intro us2 wy hrel
      obtain ⟨j, bv, h35, h5, hj, ho, hL⟩ := hrel
      simp only [frameOf, Nat.reduceAdd, h35, h5]
      have Hh35 := hid h35; clear h35
      have Hh5 := hid h5; clear h5
      have HO := hid ho; have HL := hid hL
      clear ho hL
      by_cases hlt2 : j < ks.length
      · have HLT2 := hid hlt2
        obtain ⟨sg, hsg, q0, q1, q2, q3⟩ := OwnK.cells HOK.out hlt2
        subst hsg
        have HHX := hid (HHD.out _ (List.getElem_mem hlt2))
        have hmem : ks[j].cell ∈ L := by
          have h1 : ks[j].cell ∈ ks.map (·.cell) := List.mem_map.2 ⟨_, List.getElem_mem hlt2, rfl⟩
          rw [HKS.out] at h1
          exact (List.mem_filter.1 h1).1
        have HIDX := hid (HH.out.ids _ hmem)
        have HDX : Hid (ks[j].cell.data.length ≤ 67108864) := hid (by have h1 := weightL_mem hmem; have h2 := HH.out.st.full; unfold CellP.weight at h1; omega)
        have HTKX : Hid (((ks.take (j + 1)).map (·.cell)).flatMap encCell = ((ks.take j).map (·.cell)).flatMap encCell ++ encCell ks[j].cell) := hid (by rw [List.take_succ_eq_append_getElem hlt2, List.map_append, List.flatMap_append, List.map_cons, List.map_nil, List.flatMap_cons, List.flatMap_nil, List.append_nil]; rfl)
        have HPL : Hid ((encInt ks.length ++ ((ks.take j).map (·.cell)).flatMap encCell).length ≤ 134217739) := hid (by
          have h1 := encInt_length (ks.length : Int)
          have h2 := encList_take_len (l := L.filter (inGroup (lo + k))) (fun c hc => HH.out.st.valid c (List.mem_filter.1 hc).1) j
          rw [← HKS.out, ← List.map_take] at h2
          have h3 := weightL_filter_le (inGroup (lo + k)) L
          rw [← HKS.out] at h3
          have h4 := HH.out.st.full
          rw [List.length_append]; omega)
        obtain ⟨pre, hpre⟩ : ∃ pre, pre = encInt (ks.length : Int) ++ ((ks.take j).map (·.cell)).flatMap encCell := ⟨_, rfl⟩
        have HPRE := hid hpre
        rw [← hpre] at HO HPL
        clear hpre
        have HJ := hid hlt2
        clear hmem
        generalize ks[j] = y at *
        obtain ⟨⟨key, ⟨f, t⟩, data⟩, kv, dv⟩ := y
        obtain ⟨ka, kc, hkv, -⟩ := id HHX.out.1
        obtain ⟨da, dc, hdv, -⟩ := id HHX.out.2
        simp only at q0 q1 q2 q3 hkv hdv HDX
        subst hkv hdv
        replace q0 := HL.out.cell q0
        replace q1 := HL.out.cell q1
        replace q2 := HL.out.cell q2
        replace q3 := HL.out.cell q3
        have hk8 : key.length ≤ 8 := HIDX.out.len
        have HK8 := hid hk8
        obtain ⟨wz, hwz⟩ : ∃ wz, wz = wy.alloc (.cells #[.slice ka key.length kc, .int .i64 f, .int .i64 t, .slice da data.length dc] 57 (0, 0)) := ⟨_, rfl⟩
        obtain ⟨T7, hT7⟩ : ∃ T7, T7 = wy.heap.size := ⟨_, rfl⟩
        have hLz : Later wy wz := by rw [hwz]; exact Later.alloc _ _
        have o7 : wz.heap[T7]? = some (.cells #[.slice ka key.length kc, .int .i64 f, .int .i64 t, .slice da data.length dc] 57 (0, 0)) := by rw [hwz, hT7]; exact obj_new _ _
        have HOZ := hid (owns_at HO.out hLz)
        have HLZ := hid (Later.trans _ _ _ HL.out hLz)
        have HO7 := hid o7
        have HBZ := hid (Nat.le_trans HL.out.size hLz.size)
        have hkk : (key.length : Int) ≤ 8 := by omega
        go_upto_region 10 with (fail)
        rw [← hwz, ← hT7]
        have o70 := cell_obj (i := 0) o7 (v := .slice ka key.length kc) rfl
        clear hwz hT7 hLz o7 q0 q1 q2 q3 HL HO
        go_wp2_with fail
        refine (put_int w2.heap.size bv pre key.length wz (wf64 (by omega) (by omega)) HOZ.out HBZ.out (by have := HPL.out; omega)).mono ?_
        rintro e w5 ⟨v5, rfl, hp5⟩
        have HL5 := hid (put_later HLZ.out HOZ.out (Nat.le_refl _) hp5)
        have HO75 := hid (put_obj HOZ.out hp5 HO7.out (by decide))
        have HP5 := hid hp5.own
        clear hp5 o70 HOZ HLZ HO7 HBZ
        have o70 := cell_obj (i := 0) HO75.out (v := .slice ka key.length kc) rfl
        go_wp2_with fail
        obtain ⟨R3, hR3⟩ : ∃ RR_ : (Nat → Value) → World → Prop, RR_ = (fun us wb => ∃ (q : Nat) (b2 : Value), us 47 = .int .i64 q ∧ us 5 = b2 ∧ q ≤ key.length ∧ wb.ownsRow w2.heap.size 5 1 b2 (pre ++ (encInt key.length ++ encVals (key.take q))).length (byteCells (pre ++ (encInt key.length ++ encVals (key.take q)))) ∧ Later w2 wb ∧ wb.heap[T7]? = some (.cells #[.slice ka key.length kc, .int .i64 f, .int .i64 t, .slice da data.length dc] 57 (0, 0))) := ⟨_, rfl⟩
        obtain ⟨mu3, hmu3⟩ : ∃ mu : (Nat → Value) → World → Nat, mu = (fun us _ => key.length - (intOf (us 47)).toNat) := ⟨_, rfl⟩
        have HR3 := hid hR3; have Hmu3 := hid hmu3; clear hR3 hmu3
        refine wp_loop_frame' [false, false, false, false, false, true, false, false, false, true, false, false, false, false, false, false, false, false, false, false, false, false, false, false, false, false, false, false, false, false, false, false, false, false, false, false, false, false, false, false, false, false, false, false, false, false, false, true, true, true, true, true, true, true, true] R3 _ mu3 HR3.out ?_ ?_
        · exact ⟨0, v5, rfl, rfl, Nat.zero_le _, by simpa [encVals] using HP5.out, HL5.out, HO75.out⟩
        clear HP5 HL5 HO75 o70
        intro us3 wb hrel
        obtain ⟨q, b2, h47, h5b, hq, hob, hLb, h7b⟩ := hrel
        simp only [frameOf, Nat.reduceAdd, h47, h5b]
        have Hh47 := hid h47; clear h47
        have Hh5b := hid h5b; clear h5b
        have HOB := hid hob; have HLB := hid hLb; have H7B := hid h7b
        clear hob hLb h7b
        by_cases hlt3 : q < key.length
        · obtain ⟨a9, c9, hv9, -, -, -, hel9⟩ := id HHX.out.1
          simp only [Value.slice.injEq, true_and] at hv9
          obtain ⟨rfl, rfl⟩ := hv9
          obtain ⟨b1, o1, rfl, -, e1⟩ := hel9 q hlt3
          obtain ⟨p1, p2, p3⟩ := e1.later HLB.out
          have HOKX := hid (HIDX.out.ok _ (List.getElem_mem hlt3))
          have HTK3 := hid (encVals_take hlt3)
          have HSZ3 : Hid ((pre ++ (encInt key.length ++ encVals (key.take q)) ++ encVal key[q]).length + 30 ≤ 70368744177664) := hid (by
            have h1 := encInt_length (key.length : Int)
            have h2 := encVals_len (l := key.take (q + 1)) fun x hx => HIDX.out.val x (List.mem_of_mem_take hx)
            have h3 : (key.take (q + 1)).length ≤ key.length := by rw [List.length_take]; omega
            have h4 := HPL.out
            rw [encVals_take hlt3] at h2
            simp only [List.length_append] at h2 ⊢
            omega)
          generalize key[q] = x at *
          obtain ⟨xk, xn, xt⟩ := x
          simp only at p1 p2 p3
          clear e1 hel9
          go_wp2_with fail
          have hLx := Later.alloc wb (.cells #[.int .i64 xk, .int .i64 xn, .string xt] 52 (0, 0))
          refine (put_value w2.heap.size b2 _ ⟨xk, xn, xt⟩ _ HOKX.out (owns_at HOB.out hLx) (Nat.le_trans HLB.out.size hLx.size) HSZ3.out).mono ?_
          rintro e w6 ⟨v6, rfl, hp6⟩
          have HL6 := hid (put_later (Later.trans _ _ _ HLB.out hLx) (owns_at HOB.out hLx) (Nat.le_refl _) hp6)
          have HO76 := hid (put_obj (owns_at HOB.out hLx) hp6 (hLx.obj H7B.out) (by decide))
          have HP6 := hid hp6.own
          clear hp6 hLx p1 p2 p3
          go_wp2_with fail
          refine Round.mk' HR3.out Hmu3.out rfl ?_ ?_
          · exact ⟨q + 1, v6, by go_num, rfl, by omega, by rw [HTK3.out]; simpa [List.append_assoc] using HP6.out, HL6.out, HO76.out⟩
          · rw [Hh47.out]; simp [intOf, slots]; omega
        · obtain rfl : q = key.length := by omega
          rw [List.take_length] at HOB
          have HSZ4 : Hid ((pre ++ (encInt key.length ++ encVals key)).length ≤ 134300000) := hid (by
            have h1 := encInt_length (key.length : Int)
            have h2 := encVals_len (l := key) fun x hx => HIDX.out.val x hx
            have h4 := HPL.out
            simp only [List.length_append]
            omega)
          have HWF : Hid ((Lit.int .i64 f).wf = true ∧ (Lit.int .i64 t).wf = true) := hid ⟨HIDX.out.lo, HIDX.out.hi⟩
          have HZB := hid HLB.out.size
          go_upto_region 16 with (fail)
          refine wp_region_held_drew (S := fun W => W.heap[T7]? = some (.cells #[.slice ka key.length kc, .int .i64 f, .int .i64 t, .slice da data.length dc] 57 (0, 0))) (by kernel_rfl) ((Later.drew wb).obj H7B.out) (fun hS => ?_)
          obtain ⟨wb1, hwb1⟩ : ∃ W, W = wb.drew := ⟨_, rfl⟩
          have HB1 : Hid (wb1.ownsRow w2.heap.size 5 1 b2 (pre ++ (encInt key.length ++ encVals key)).length (byteCells (pre ++ (encInt key.length ++ encVals key)))) := hid (by rw [hwb1]; exact owns_at HOB.out (Later.drew wb))
          have HLB1 : Hid (Later w2 wb1) := hid (by rw [hwb1]; exact Later.trans _ _ _ HLB.out (Later.drew wb))
          rw [← hwb1] at hS ⊢
          clear hwb1
          refine wpAnyH_take (i := 0) (v := b2) rfl (by kernel_rfl) (by kernel_rfl) (by kernel_rfl) (fun _ _ _ h => h) (Or.inl ⟨by rfl, ?_⟩) hS ?_
          · intro w hS'
            clear hS hS'
            go_simp
          try simp only [Act.put, List.setIfInBounds_toArray, List.set]
          refine wpAnyH_take (i := 1) (v := .pointer (some ⟨T7, 1, none⟩)) rfl (by kernel_rfl) (by kernel_rfl) (by kernel_rfl) (fun _ _ _ h => h) (Or.inl ⟨by rfl, ?_⟩) hS ?_
          · intro w hS'
            clear hS hS'
            go_simp
          try simp only [Act.put, List.setIfInBounds_toArray, List.set]
          refine wpAnyH_take (i := 2) (v := .pointer (some ⟨T7, 1, none⟩)) rfl (by kernel_rfl) (by kernel_rfl) (by kernel_rfl) (fun _ _ _ h => h) (Or.inl ⟨by rfl, ?_⟩) hS ?_
          · intro w hS'
            clear hS hS'
            go_simp
          try simp only [Act.put, List.setIfInBounds_toArray, List.set]
          refine wpAnyH_take (i := 3) (v := .int .i64 f) rfl (by kernel_rfl) (by kernel_rfl) (by kernel_rfl) (fun _ _ _ h => h) (Or.inl ⟨by rfl, ?_⟩) hS ?_
          · intro w hS'
            have zf0 := (cell_obj (i := 1) hS' (v := .int .i64 f) rfl)
            clear hS hS'
            go_simp
          try simp only [Act.put, List.setIfInBounds_toArray, List.set]
          refine wpAnyH_take (i := 5) (v := .pointer (some ⟨T7, 1, none⟩)) rfl (by kernel_rfl) (by kernel_rfl) (by kernel_rfl) (fun _ _ _ h => h) (Or.inl ⟨by rfl, ?_⟩) hS ?_
          · intro w hS'
            clear hS hS'
            go_simp
          try simp only [Act.put, List.setIfInBounds_toArray, List.set]
          refine wpAnyH_take (i := 6) (v := .pointer (some ⟨T7, 2, none⟩)) rfl (by kernel_rfl) (by kernel_rfl) (by kernel_rfl) (fun _ _ _ h => h) (Or.inl ⟨by rfl, ?_⟩) hS ?_
          · intro w hS'
            clear hS hS'
            go_simp
          try simp only [Act.put, List.setIfInBounds_toArray, List.set]
          refine wpAnyH_take (i := 7) (v := .int .i64 t) rfl (by kernel_rfl) (by kernel_rfl) (by kernel_rfl) (fun _ _ _ h => h) (Or.inl ⟨by rfl, ?_⟩) hS ?_
          · intro w hS'
            have zf0 := (cell_obj (i := 2) hS' (v := .int .i64 t) rfl)
            clear hS hS'
            go_simp
          try simp only [Act.put, List.setIfInBounds_toArray, List.set]
          refine wpAnyH_ready (rs := [4]) (by kernel_rfl) (by simp) (AllReadyH.cons rfl (fun K hK => ?_) AllReadyH.nil)
          go_simp
          refine (put_int w2.heap.size b2 _ f wb1 HWF.out.1 HB1.out HLB1.out.size (by have := HSZ4.out; omega)).mono ?_
          rintro e w7 ⟨v7, rfl, hp7⟩
          have HL7 := hid (put_later HLB1.out HB1.out (Nat.le_refl _) hp7)
          have HP7 := hid hp7.own
          have hS7 := put_obj HB1.out hp7 hS (by decide)
          refine hK.out _ _ hS7 (fun hS => ?_)
          clear hK K hp7 hS7
          try simp only [Act.put, List.setIfInBounds_toArray, List.set]
          refine wpAnyH_ready (rs := [8]) (by kernel_rfl) (by simp) (AllReadyH.cons rfl (fun K hK => ?_) AllReadyH.nil)
          go_simp
          refine (put_int w2.heap.size v7 _ t w7 HWF.out.2 HP7.out HL7.out.size (by have := HSZ4.out; have := encInt_length f; rw [List.length_append]; omega)).mono ?_
          rintro e w8 ⟨v8, rfl, hp8⟩
          have HL8 := hid (put_later HL7.out HP7.out (Nat.le_refl _) hp8)
          have HP8 := hid hp8.own
          have hS8 := put_obj HP7.out hp8 hS (by decide)
          refine hK.out _ _ hS8 (fun hS => ?_)
          clear hK K hp8 hS8
          try simp only [Act.put, List.setIfInBounds_toArray, List.set]
          refine wpAnyH_ready (rs := [9]) (by kernel_rfl) (by simp) (AllReadyH.cons rfl (fun K hK => ?_) AllReadyH.nil)
          go_simp
          refine hK.out _ _ hS (fun hS => ?_)
          clear hK K
          try simp only [Act.put, List.setIfInBounds_toArray, List.set]
          refine wpAnyH_done (by kernel_rfl) ?_ _
          have H78 := hid hS
          clear hS
          obtain ⟨p8, hp8⟩ : ∃ p8, p8 = pre ++ (encInt key.length ++ encVals key) ++ encInt f ++ encInt t := ⟨_, rfl⟩
          have HPE := hid hp8
          have HSZ5 : Hid (p8.length ≤ 134300100) := hid (by rw [hp8]; have := HSZ4.out; have := encInt_length f; have := encInt_length t; simp only [List.length_append] at *; omega)
          rw [← hp8] at HP8
          clear hp8 HP7 HL7 HB1 HLB1
          go_upto_region 17 with (fail)
          refine wp_region_held_drew (S := fun W => W.heap[T7]? = some (.cells #[.slice ka key.length kc, .int .i64 f, .int .i64 t, .slice da data.length dc] 57 (0, 0)) ∧ Later w2 W) (by kernel_rfl) ⟨(Later.drew w8).obj H78.out, Later.trans _ _ _ HL8.out (Later.drew w8)⟩ (fun hS => ?_)
          obtain ⟨w81, hw81⟩ : ∃ W, W = w8.drew := ⟨_, rfl⟩
          have HB2 : Hid (w81.ownsRow w2.heap.size 5 1 v8 p8.length (byteCells p8)) := hid (by rw [hw81]; exact owns_at HP8.out (Later.drew w8))
          rw [← hw81] at hS ⊢
          clear hw81
          refine wpAnyH_take (i := 0) (v := v8) rfl (by kernel_rfl) (by kernel_rfl) (by kernel_rfl) (fun _ _ _ h => h) (Or.inl ⟨by rfl, ?_⟩) hS ?_
          · intro w hS'
            clear hS hS'
            go_simp
          try simp only [Act.put, List.setIfInBounds_toArray, List.set]
          refine wpAnyH_take (i := 1) (v := .pointer (some ⟨T7, 3, none⟩)) rfl (by kernel_rfl) (by kernel_rfl) (by kernel_rfl) (fun _ _ _ h => h) (Or.inl ⟨by rfl, ?_⟩) hS ?_
          · intro w hS'
            clear hS hS'
            go_simp
          try simp only [Act.put, List.setIfInBounds_toArray, List.set]
          refine wpAnyH_take (i := 2) (v := .slice da data.length dc) rfl (by kernel_rfl) (by kernel_rfl) (by kernel_rfl) (fun _ _ _ h => h) (Or.inl ⟨by rfl, ?_⟩) hS ?_
          · intro w hS'
            have zf0 := (cell_obj (i := 3) hS'.1 (v := .slice da data.length dc) rfl)
            clear hS hS'
            go_simp
          try simp only [Act.put, List.setIfInBounds_toArray, List.set]
          refine wpAnyH_take (i := 3) (v := .int .i64 data.length) rfl (by kernel_rfl) (by kernel_rfl) (by kernel_rfl) (fun _ _ _ h => h) (Or.inl ⟨by rfl, ?_⟩) hS ?_
          · intro w hS'
            clear hS hS'
            go_simp
          try simp only [Act.put, List.setIfInBounds_toArray, List.set]
          refine wpAnyH_take (i := 5) (v := .pointer (some ⟨T7, 3, none⟩)) rfl (by kernel_rfl) (by kernel_rfl) (by kernel_rfl) (fun _ _ _ h => h) (Or.inl ⟨by rfl, ?_⟩) hS ?_
          · intro w hS'
            clear hS hS'
            go_simp
          try simp only [Act.put, List.setIfInBounds_toArray, List.set]
          refine wpAnyH_take (i := 6) (v := .slice da data.length dc) rfl (by kernel_rfl) (by kernel_rfl) (by kernel_rfl) (fun _ _ _ h => h) (Or.inl ⟨by rfl, ?_⟩) hS ?_
          · intro w hS'
            have zf0 := (cell_obj (i := 3) hS'.1 (v := .slice da data.length dc) rfl)
            clear hS hS'
            go_simp
          try simp only [Act.put, List.setIfInBounds_toArray, List.set]
          refine wpAnyH_ready (rs := [4]) (by kernel_rfl) (by simp) (AllReadyH.cons rfl (fun K hK => ?_) AllReadyH.nil)
          go_simp
          refine (put_int w2.heap.size v8 _ data.length w81 (wf64 (by omega) (by have := HDX.out; omega)) HB2.out hS.2.size (by have := HSZ5.out; omega)).mono ?_
          rintro e w9 ⟨v9, rfl, hp9⟩
          have HP9 := hid hp9.own
          have hS9 := And.intro (put_obj HB2.out hp9 hS.1 (by decide)) (put_later hS.2 HB2.out (Nat.le_refl _) hp9)
          refine hK.out _ _ hS9 (fun hS => ?_)
          clear hK K hp9 hS9
          try simp only [Act.put, List.setIfInBounds_toArray, List.set]
          obtain ⟨ii, hi, hz0, hz1, hz2⟩ := info_parts infoU8
          have HDV := hid (SliceOf.bytes_later HHX.out.2 hS.2)
          refine wpAnyH_list (i := 7) (by kernel_rfl) rfl ?_
          refine wpList_put_bytes rfl _ _ 35 rfl w2.heap.size 5 ii Tryz.underlying35 hi hz0 hz1 hz2 _ _ rfl HP9.out _ _ data rfl HDV.out (by have := HSZ5.out; have := encInt_length (data.length : Int); have := HDX.out; rw [List.length_append]; omega) hS.2.size ?_
          intro v10 w10 hp10
          have hS10 := And.intro (put_obj HP9.out hp10 hS.1 (by decide)) (put_later hS.2 HP9.out (Nat.le_refl _) hp10)
          have HP10 := hid hp10.own
          refine ⟨hS10, ?_⟩
          clear hS hp10 hi hz0 hz1 hz2
          have hS := hS10
          clear hS10
          try simp only [Act.put, List.setIfInBounds_toArray, List.set]
          refine wpAnyH_ready (rs := [8]) (by kernel_rfl) (by simp) (AllReadyH.cons rfl (fun K hK => ?_) AllReadyH.nil)
          go_simp
          refine hK.out _ _ hS (fun hS => ?_)
          clear hK K
          try simp only [Act.put, List.setIfInBounds_toArray, List.set]
          refine wpAnyH_done (by kernel_rfl) ?_ _
          have HL10 := hid hS.2
          clear hS
          have hj1 : (j : Int) + 1 ≤ 9223372036854775807 := by have := HJ.out; have := HKN.out; omega
          go_wp2_with fail
          refine Round.mk' HR2.out Hmu2.out rfl ?_ ?_
          · refine ⟨j + 1, v10, by go_num, rfl, HJ.out, ?_, HL10.out⟩
            have e : encInt (ks.length : Int) ++ ((ks.take (j + 1)).map (·.cell)).flatMap encCell = p8 ++ encInt data.length ++ data := by
              rw [HTKX.out, HPE.out, HPRE.out]
              unfold encCell
              simp only [List.append_assoc]
            rw [e]
            exact HP10.out
          · rw [Hh35.out]; have := HJ.out; simp [intOf, slots]; omega
      · have hjn : j = ks.length := by omega
        have hbody : encInt (ks.length : Int) ++ ((ks.take j).map (·.cell)).flatMap encCell = encCells (L.filter (inGroup (lo + k))) := by
          rw [hjn, List.take_length]
          unfold encCells
          rw [← HKS.out, List.length_map]
        rw [hbody] at HO
        have HLEN := hid (encCells_len HH.out.st (inGroup (lo + k)) (by rw [← HKL.out]; exact H0.out))
        have HNB := hid (owned_bytes HO.out)
        clear hbody hjn hj
        go_wp2_with fail
        refine (seal_any bv _ wy HNB.out.all HLEN.out).mono ?_
        rintro e w10 ⟨v10, rfl, hown10, hL10⟩
        obtain ⟨s10, c10, hv10⟩ := ownsRow_slice hown10
        subst hv10
        have HO10 := hid hown10
        have HS10 := hid (HS2.out.at (Later.trans _ _ _ HL.out hL10))
        have HZ10 := hid (And.intro HL.out.size hL10.size)
        have g10 := cell_obj (i := 0) HS10.out.box (v := .int .i64 (lo + k)) rfl
        have hxs : xs.length ≤ 32 := by
          have h1 := piecesN_len lo L k
          rw [← HS10.out.is, List.length_map] at h1
          have := HR.out; have := HLT.out; omega
        have HXS := hid hxs
        clear hown10 hL10 hxs HNB
        go_wp2_with (at_builtin; go_loud (refine wpList_append_obj rfl _ _ 42 rfl 47 2 32 Tryz.underlying42 pieceElem rfl (owns_at HS10.out.own (Later.alloc _ _)) (news := [.int .i64 (lo + k), .slice s10 (sealed (encCells (L.filter (inGroup (lo + k))))).length c10]) rfl (obj_at (by simp)) rfl (by intro u hu; simp only [List.mem_cons, List.not_mem_nil, or_false] at hu; rcases hu with rfl | rfl <;> rfl) ?c1 ?c2 ?c3 ?_))
        case c1 => have := HXS.out; omega
        case c2 => have := HXS.out; unfold maxLen; omega
        case c3 => have := HS10.out.later.size; simp only [World.size_alloc]; omega
        intro v11 w11 hA
        have hLa := Later.alloc w10 (.cells #[.int .i64 (lo + k), .slice s10 (sealed (encCells (L.filter (inGroup (lo + k))))).length c10] 47 (0, 0))
        have hoA := owns_at HS10.out.own hLa
        obtain ⟨a11, c11, hv11⟩ := ownsRow_slice hA.own
        subst hv11
        have hboxA := hA.obj (hLa.obj HS10.out.box) (fun e => own_ne hoA (hLa.obj HS10.out.box) (by decide) e.symm)
        have g11 := cell_obj (i := 0) hboxA (v := .int .i64 (lo + k)) rfl
        have HA := hid hA; have HLA := hid hLa
        clear hA hLa hoA hboxA g10
        go_wp2_with fail
        obtain ⟨x, hx⟩ : ∃ x : PX, x = ⟨lo + k, .slice s10 (sealed (encCells (L.filter (inGroup (lo + k))))).length c10, sealed (encCells (L.filter (inGroup (lo + k))))⟩ := ⟨_, rfl⟩
        have hoA := owns_at HS10.out.own HLA.out
        have hdA := HS10.out.deep.later HLA.out
        have hxA := owns_at HO10.out HLA.out
        have hown11 : OwnPc w.heap.size w11 (.slice a11 (xs ++ [x]).length c11) (xs ++ [x]) := by
          have := HA.out.own
          unfold OwnPc
          rw [pxCells_app, List.length_append, hx]
          exact this
        have hoff : ∀ y ∈ xs, ∀ b, y.v.ownBlock = some b → some b ≠ (Value.slice a xs.length c).ownBlock := fun y hy b hb e => own_apart (hdA.own y hy) hoA (by decide) b hb e.symm
        have hdeep11 : DeepPc w.heap.size w11 (xs ++ [x]) := by
          refine (hdA.keep HA.out.keeps hoff).snoc ?_ ?_
          · rw [hx]
            refine own_base (owns_keep hxA HA.out.keeps fun b hb e => own_apart hxA hoA (by decide) b hb e.symm) ?_
            have h1 := HS2.out.later.size
            have h2 := HZ10.out.1
            omega
          · intro y hy b hb hb'
            rw [hx] at hb'
            have h1 := (ownb (HS2.out.deep.own y hy) b hb).2
            have h2 := (ownb HO10.out b hb').1
            have h3 := HZ10.out.1
            omega
        have hLw : Later w w11 := HA.out.later hoA (Later.trans _ _ _ HS10.out.later HLA.out) (Nat.le_refl _)
        have HN := hid (SaveSt.next (w2 := w11) (k := k) hown11 hdeep11 (by rw [List.map_append, HS10.out.is, piecesN_succ, if_neg (by rw [← HKL.out]; exact H0.out), hx]; rfl) hLw HLT.out)
        have HXL : Hid ((xs ++ [x]).length = xs.length + 1) := hid (by simp)
        clear hown11 hdeep11 hoA hdA hxA hoff hLw
        refine Round.mk' HR1.out Hmu1.out rfl ?_ ?_
        · exact ⟨k + 1, w11.heap.size, a11, c11, xs ++ [x], rfl, by rw [HXL.out]; rfl, HN.out⟩
        · rw [Hh3.out]
          simp only [slots]
          have hm1 := HBX0.out
          rw [Hh3.out] at hm1
          rw [hm1]
          show (hi - boxInt _ (.pointer (some ⟨w11.heap.size, 0, none⟩))).toNat < _
          rw [boxInt_eq (obj_new _ _)]
          have := HLT.out
          omega
  · have HK : Hid (pieces lo hi L = piecesN lo L k) := hid (by have := HST.out.le; unfold pieces; rw [show (hi - lo).toNat = k by omega])
    go_wp2_with fail
    go_ret
    refine ⟨_, rfl, ⟨xs, by rw [HK.out]; exact HST.out.is, owns_at HST.out.own HR1.out, HST.out.deep.later HR1.out⟩, Later.trans _ _ _ HST.out.later HR1.out⟩
end
end Go.Proofs.YtgcnchmnciihnaaGreatDoor
