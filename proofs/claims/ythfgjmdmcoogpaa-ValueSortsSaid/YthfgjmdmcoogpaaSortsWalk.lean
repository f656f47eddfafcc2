/-
  PROVED HERE: the walk of streamwrightlaw1.ValueSorts.
-/
import Derived.Test.YthfgjmdmcoogpaaSortsPlain
import Derived.Test.YthfgjmdmcoogpaaRefSorted
import Derived.Test.YthfgjmdmcoogpaaSameRows
import Derived.Test.YthfgjmdmcoogpaaCopyZero
namespace Go.Proofs.Ythfgjmdmcoogpaa
set_option linter.unusedSimpArgs false
set_option linter.unusedVariables false
open Go.RowKit

theorem valElem : ElemInfo Try.prog 45 3 32 := ElemInfo.of infoVal rfl (by decide)
theorem val_ones : ∀ u ∈ [Value.int .i64 98, .int .i64 0, .string ⟨#[]⟩], u.oneCell' = true := by
  intro u hu
  simp only [List.mem_cons, List.not_mem_nil, or_false] at hu
  rcases hu with rfl | rfl | rfl <;> rfl
def SortsTo (w : World) (e : Ending) (w' : World) : Prop := e = .returned (.bool true) ∧ Later w w'
set_option maxRecDepth 100000 in
set_option maxHeartbeats 8000000 in
theorem sorts_walk (l : List Row) (v : Value) (w : World) (hv : IsRows w v l) (hl : l.length * 32 ≤ 140737488351232) (hr : ∀ x ∈ l, x.vals.length * 32 ≤ 140737488351232) :
    Calls Try.prog 5 #[v] w (SortsTo w) := by
  have HLL := hid hl; have HR := hid hr
  have HV := hid hv.rows_lt
  obtain ⟨p, c, rfl, hlc, hcm, hnil, -⟩ := id hv
  obtain ⟨rx, hrx, hrv, hrc⟩ := rows_rx hv
  have HRX := hid hrx; have HRV := hid hrv; have HRC := hid hrc; have HNIL := hid hnil; have HLC := hid hlc
  have HRL : Hid (rx.length = l.length) := hid (by rw [← hrx, List.length_map])
  obtain ⟨i0, hi, hz0, hz1, hz2⟩ := info_parts rowInfo
  have HI := hid hi; have HZ1 := hid hz1
  have hadd : IntKind.i64.wrap ((l.length : Int) + 70) = ((l.length + 70 : Nat) : Int) := (IntWalk.i64_in _ (by omega)).trans (by omega)
  have hadd2 : wrap64 ((l.length : Int) + 70) = ((l.length + 70 : Nat) : Int) := by unfold wrap64; omega
  clear hl hr hv hnil hrx hrv hrc hi hz0 hz1 hz2 hlc hcm
  go_enter Try.func5, Try.ntmps5
  go_wp2_with (at_make; go_loud (refine wpList_makeN (n := l.length + 70) rfl _ _ 37 rfl w.heap.size 42 _ 2 32 Try.underlying37 rowInfo rfl rfl ?m1 ?m2 ?m3 ?m4 (Nat.le_refl _) ?_))
  case m1 => first | rfl | exact hadd
  case m2 => first | rfl | exact hadd
  case m3 => have := HLL.out; omega
  case m4 => have := HLL.out; unfold maxLen; omega
  intro w3 hown hgrow
  have HL3 := hid (grown_none hgrow)
  obtain ⟨G, hG⟩ : ∃ G, G = w.heap.size := ⟨_, rfl⟩
  rw [← hG] at hown ⊢
  have HG := hid hG
  have hcur : w3.heap[G]? = some (.cells (rxCells (List.replicate (l.length + 70) nilRX)).toArray 42 (0, 0)) := by
    have h := owned_block hown
    rw [made_nil] at h
    exact h
  have HCUR := hid hcur
  clear hown hgrow hcur hG hadd hadd2
  have hcl : (l.length + 70) * 2 ≤ (rxCells (List.replicate (l.length + 70) nilRX)).length := by rw [rxCells_length, List.length_replicate]; exact Nat.le_refl _
  have hl2 : (rxCells rx).length = l.length * 2 := by rw [rxCells_length, HRL.out]
  have hone : ∀ u ∈ rxCells rx, u.oneCell' = true := by
    intro u hu
    simp only [rxCells, List.mem_flatMap] at hu
    obtain ⟨x, hx, hu⟩ := hu
    obtain ⟨a', c', e', _⟩ := HRV.out x hx
    exact row_ones x ⟨_, _, _, e'⟩ u hu
  go_wp2_with (refine wpList_copy_list rfl _ _ 37 37 rfl 42 i0 2 Try.underlying37 HI.out HZ1.out (by decide) G (l.length + 70) (l.length + 70) p l.length c rfl rfl _ _ HCUR.out (Nat.le_add_right _ _) hcl (rxCells rx) hl2 ?n1 ?n2 hone ?_)
  case n1 => intro h; have := HNIL.out h; have := HLC.out; omega
  case n2 => intro ad e j u hu; exact HL3.out.cell (HRC.out ad e j u hu)
  intro w4 h4 hk4
  have hL4 : Later w w4 := ((HL3.out.keeps (fun b => b ≠ G)).trans hk4).mono (S' := fun _ => True) (fun k hk _ => by rw [HG.out]; omega) |>.later
  have ho4 : OwnR G w4 (.slice (some ⟨G, 0, none⟩) (l.length + 70) (l.length + 70)) (rx ++ List.replicate 70 nilRX) := by
    have e1 : (rxCells (List.replicate (l.length + 70) nilRX)).drop (l.length * 2) = rxCells (List.replicate 70 nilRX) := by
      rw [← rxCells_drop, List.drop_replicate, Nat.add_sub_cancel_left]
    have e2 : (rx ++ List.replicate 70 nilRX).length = l.length + 70 := by rw [List.length_append, List.length_replicate, HRL.out]
    rw [e1, ← rxCells_app] at h4
    exact ⟨by rw [rxCells_length], .inr ⟨G, l.length + 70, _, by rw [e2], Nat.le_refl _, h4, by rw [e2]; exact Nat.le_refl _, by have := HLL.out; unfold maxLen; omega, by rw [List.size_toArray, rxCells_length, e2], by rw [List.toList_toArray]; exact List.take_of_length_le (by rw [rxCells_length]; exact Nat.le_refl _)⟩⟩
  have hoc : OwnR G w4 (.slice (some ⟨G, 0, none⟩) l.length (l.length + 70)) rx := by
    have h := OwnR.cut (i := l.length) ho4 (by rw [List.length_append, HRL.out]; omega)
    rw [show (rx ++ List.replicate 70 nilRX).take l.length = rx by rw [← HRL.out]; exact List.take_left] at h
    exact h
  have hin : IsRows w4 (.slice (some ⟨G, 0, none⟩) l.length (l.length + 70)) l := by
    have h := rx_rows hoc fun x hx => ((HRV.out x hx).later hL4).vals_mono fun _ _ => trivial
    rw [HRX.out] at h
    exact h
  have HL4 := hid hL4; have HO4 := hid ho4; have HIN := hid hin
  have HV4 := hid ((SliceOf.rows_later HV.out hL4).rows_mono (S' := fun b => b < w4.heap.size) fun b hb => Nat.lt_of_lt_of_le hb hL4.size)
  have HIN2 := hid hin.rows_lt
  clear h4 hk4 hcl hl2 hone HL3 HCUR hL4 ho4 hoc hin HV HRX HRV HRC HNIL HI HZ1
  go_wp2_with fail
  refine (sorted_rows l _ _ HIN.out (by have := HLL.out; omega) (fun x hx => by have := HR.out x hx; omega)).mono ?_
  rintro e w5 ⟨v5, xs, rfl, ho5, hd5, hp5, hs5, hL5⟩
  obtain ⟨a5, c5, rfl⟩ := ownsRow_slice ho5
  have HO5 := hid ho5; have HD5 := hid hd5; have HP5 := hid hp5; have HS5 := hid hs5; have HL5 := hid hL5
  clear ho5 hd5 hp5 hs5 hL5
  go_wp2_with fail
  refine (ref_sorted l _ _ ((SliceOf.rows_later HV4.out HL5.out).rows_mono fun _ _ => trivial) (by have := HLL.out; omega) (fun x hx => by have := HR.out x hx; omega)).mono ?_
  rintro e w6 ⟨v6, ys, rfl, ho6, hd6, hp6, hs6, hL6⟩
  have HYS := hid ((OwnR.rows ho6 hd6 (Nat.le_refl _)).rows_mono (S' := All) fun _ _ => trivial)
  have HEQ : Hid (ys.map (·.row) = xs.map (·.row)) := hid (sortedR_unique hs6 HS5.out (hp6.trans HP5.out.symm))
  have HO6 := hid (owns_at HO5.out hL6); have HD6 := hid (HD5.out.later hL6); have HL6 := hid (Later.trans _ _ _ HL5.out hL6)
  clear ho6 hd6 hp6 hs6 hL6 HO5 HD5 HL5
  go_wp2_with fail
  refine (same_rows (xs.map (·.row)) (ys.map (·.row)) _ _ _ ((OwnR.rows HO6.out HD6.out.own (Nat.le_refl _)).rows_mono (S' := All) fun _ _ => trivial) HYS.out).mono ?_
  rintro e w7 ⟨rfl, hL7⟩
  rw [HEQ.out, sameR_refl]
  have HO7 := hid (owns_at HO6.out hL7); have HD7 := hid (HD6.out.later hL7); have HL7 := hid (Later.trans _ _ _ HL6.out hL7)
  clear hL7 HO6 HD6 HL6 HYS HEQ
  go_wp2_with fail
  refine (same_rows l l _ _ _ (SliceOf.rows_later HIN.out HL7.out) ((SliceOf.rows_later HV4.out HL7.out).rows_mono fun _ _ => trivial)).mono ?_
  rintro e w8 ⟨rfl, hL8⟩
  rw [sameR_refl]
  have HO8 := hid (owns_at HO7.out hL8); have HD8 := hid (HD7.out.later hL8); have HL8 := hid (Later.trans _ _ _ HL7.out hL8)
  clear hL8 HO7 HD7 HL7
  have HXL : Hid (xs.length = l.length) := hid (by have := HP5.out.length_eq; rwa [List.length_map] at this)
  have HXR : Hid (∀ x ∈ xs, x.row.vals.length * 32 ≤ 140737488351232) := hid (fun x hx => HR.out _ (HP5.out.mem_iff.1 (List.mem_map.2 ⟨x, hx, rfl⟩)))
  clear HP5 HS5 HIN
  have HAP : Hid (∀ (j k : Nat) (hj : j < xs.length) (hk : k < xs.length), j ≠ k → ∀ b, xs[j].v.ownBlock = some b → xs[k].v.ownBlock ≠ some b) := hid (fun j k hj hk hne b h1 h2 => by
    have h := List.pairwise_iff_getElem.1 HD8.out.apart
    rcases Nat.lt_or_gt_of_ne hne with hlt | hlt
    · exact h j k hj hk hlt b h1 h2
    · exact h k j hk hj hlt b h2 h1)
  have HXS : Hid (∀ x ∈ xs, ∃ a c, x.v = .slice a x.row.vals.length c) := hid (fun x hx => ownsRow_slice (HD8.out.own x hx))
  have HLB : Hid (xs.length ≤ 4398046511104) := hid (by have := HXL.out; have := HLL.out; omega)
  go_wp2_with fail
  obtain ⟨R1, hR1⟩ : ∃ RR_ : (Nat → Value) → World → Prop, RR_ = (fun us wx => ∃ i : Nat, us 8 = .int .i64 i ∧ i ≤ xs.length ∧ OwnR w4.heap.size wx (.slice a5 xs.length c5) xs ∧ (∀ j (h : j < xs.length), j < i → MarkAt wx xs[j] j) ∧ (∀ j (h : j < xs.length), i ≤ j → wx.ownsRow w4.heap.size 45 3 xs[j].v xs[j].row.vals.length (valCells xs[j].row.vals)) ∧ Keeps (fun b => b < w4.heap.size) w4 wx) := ⟨_, rfl⟩
  obtain ⟨mu1, hmu1⟩ : ∃ mu : (Nat → Value) → World → Nat, mu = (fun us _ => xs.length - (intOf (us 8)).toNat) := ⟨_, rfl⟩
  have HR1 := hid hR1; have Hmu1 := hid hmu1; clear hR1 hmu1
  refine wp_loop_frame' [false, false, true, false, false, false, false, false, true, true, true, true, false, false, false, false, false, false, false, false, false, false, false, false, false, false, false, false, false, false, false, false, false, false, false, false, false, false, false, false, false, false, false, true, true, true, true, true, true, true, true, true, true, true, true, true, true, true, true, true, true, true, true, true, true, true, true, true, true, true, true, true, true, true, true, true, true, true, true, true, true, true, true, true, true, true, true, true, true, true, true] R1 _ mu1 HR1.out ?_ ?_
  · exact ⟨0, rfl, Nat.zero_le _, HO8.out, fun j h hj => by omega, fun j h _ => HD8.out.own _ (List.getElem_mem h), HL8.out.keeps _⟩
  clear HO8 HD8 HL8
  intro us1 wx hrel
  obtain ⟨i, h8, hi, ho, hm, hd, hk⟩ := hrel
  simp only [frameOf, Nat.reduceAdd, h8]
  have Hh8 := hid h8; clear h8
  have HI := hid hi; have HO := hid ho; have HM := hid hm; have HD := hid hd; have HK := hid hk
  clear hi ho hm hd hk
  by_cases hlt : i < xs.length
  · have HLT := hid hlt
    have HWI : Hid (wrap64 ((i : Int) + 1) = ((i + 1 : Nat) : Int)) := hid (by have := HLB.out; unfold wrap64; omega)
    obtain ⟨g5, rfl, hg5, -, p2, -⟩ := OwnR.cells HO.out hlt
    have hown := HD.out i hlt (Nat.le_refl _)
    obtain ⟨ax, cx, hxv⟩ := HXS.out _ (List.getElem_mem hlt)
    have hxr := HXR.out _ (List.getElem_mem hlt)
    have hap := fun j hj hne => HAP.out j i hj hlt hne
    have HXI : ∃ x, Hid (xs[i]'hlt = x) := ⟨_, hid rfl⟩
    obtain ⟨x, HXI⟩ := HXI
    rw [show xs[i] = x from HXI.out] at p2 hown hxv hxr
    rw [hxv] at p2
    obtain ⟨n, hn⟩ : ∃ n, n = x.row.vals.length := ⟨_, rfl⟩
    rw [← hn] at p2 hown hxv hxr
    have HAPI : Hid (∀ j (hj : j < xs.length), j ≠ i → ∀ b, xs[j].v.ownBlock = some b → x.v.ownBlock ≠ some b) := hid (fun j hj hne b hb => by have h := hap j hj hne b hb; rw [show xs[i] = x from HXI.out] at h; exact h)
    have HP2 := hid p2; have HOWN := hid hown; have HXV := hid hxv; have HNN := hid hn; have HNR := hid hxr
    have HO5X : Hid (∀ b, (Value.slice (some ⟨g5, 0, none⟩) xs.length c5).ownBlock = some b → some b ≠ x.v.ownBlock) := hid (fun b hb e => own_apart HO.out hown (by decide) b hb e.symm)
    have HBX : Hid (∀ b, x.v.ownBlock = some b → w4.heap.size ≤ b ∧ b < wx.heap.size) := hid (ownb hown)
    clear p2 hown hxv hn hxr hap hg5
    go_wp2_with fail
    obtain ⟨R2, hR2⟩ : ∃ RR_ : (Nat → Value) → World → Prop, RR_ = (fun us wy => ∃ (q : Nat) (C : List Val), us 9 = .int .i64 q ∧ q ≤ n ∧ C.length = n ∧ (∀ p (h : p < C.length), p < q → C[p].n = i) ∧ wy.ownsRow w4.heap.size 45 3 x.v n (valCells C) ∧ Keeps (fun b => some b ≠ x.v.ownBlock) wx wy) := ⟨_, rfl⟩
    obtain ⟨mu2, hmu2⟩ : ∃ mu : (Nat → Value) → World → Nat, mu = (fun us _ => n - (intOf (us 9)).toNat) := ⟨_, rfl⟩
    have HR2 := hid hR2; have Hmu2 := hid hmu2; clear hR2 hmu2
    refine wp_loop_frame' [false, false, false, false, false, false, false, false, false, true, false, false, false, false, false, false, false, false, false, false, false, false, false, false, false, false, false, false, false, false, false, false, false, false, false, false, false, false, false, false, false, false, false, false, false, false, false, false, false, true, true, true, true, true, true, true, true, true, true, true, true, true, true, true, true, true, true, true] R2 _ mu2 HR2.out ?_ ?_
    · exact ⟨0, x.row.vals, rfl, Nat.zero_le _, HNN.out.symm, fun p h hp => by omega, HOWN.out, Keeps.refl _ _⟩
    intro us2 wy hrel
    obtain ⟨q, C, h9, hq, hcl, hmk, hoc, hk2⟩ := hrel
    simp only [frameOf, Nat.reduceAdd, h9]
    have Hh9 := hid h9; clear h9
    have HQ := hid hq; have HCL := hid hcl; have HMK := hid hmk; have HOC := hid hoc; have HK2 := hid hk2
    clear hq hcl hmk hoc hk2
    have p2 := HK2.out.cell (p := ⟨g5, i * 2 + 1, none⟩) (HO5X.out g5 rfl) HP2.out
    by_cases hqn : q < n
    · have HQN := hid hqn
      have HWQ : Hid (wrap64 ((q : Int) + 1) = ((q + 1 : Nat) : Int)) := hid (by have := HNR.out; unfold wrap64; omega)
      have hqC : q < C.length := by rw [HCL.out]; exact hqn
      have ho := HOC.out
      rw [HXV.out] at ho
      obtain ⟨gx, rfl⟩ := own_some ho (by omega)
      obtain ⟨y0, y1, y2⟩ := valCells_get C q hqC
      obtain ⟨c0, f0⟩ := own_cell ho y0
      obtain ⟨c1, f1⟩ := own_cell ho y1
      obtain ⟨c2, f2⟩ := own_cell ho y2
      have HPUT := hid (own_val_put ho hqC ⟨99, i, ByteArray.empty⟩)
      clear y0 y1 y2 ho
      go_upto_region 14 with (fail)
      obtain ⟨w10, hw10⟩ : ∃ w10, w10 = ((wy.setCell ⟨gx, q * 3, none⟩ (.int .i64 99)).setCell ⟨gx, q * 3 + 1, none⟩ (.int .i64 i)).setCell ⟨gx, q * 3 + 2, none⟩ (.string ByteArray.empty) := ⟨_, rfl⟩
      have HO10 : Hid (w10.ownsRow w4.heap.size 45 3 x.v n (valCells (C.set q ⟨99, i, ByteArray.empty⟩))) := hid (by rw [hw10, HXV.out]; exact HPUT.out)
      have HK10 : Hid (Keeps (fun b => some b ≠ x.v.ownBlock) wx w10) := hid (by
        have hn : ∀ o, ¬ (some (⟨gx, o, none⟩ : Addr).block ≠ x.v.ownBlock) := fun o h => h (by rw [HXV.out]; rfl)
        rw [hw10]
        exact ((HK2.out.setCell (p := ⟨gx, q * 3, none⟩) (.inl (hn _)) _).setCell (p := ⟨gx, q * 3 + 1, none⟩) (.inl (hn _)) _).setCell (p := ⟨gx, q * 3 + 2, none⟩) (.inl (hn _)) _)
      rw [show (⟨#[]⟩ : ByteArray) = ByteArray.empty from rfl] at *
      rw [← hw10]
      clear hw10 HPUT c0 c1 c2 f0 f1 f2 p2 HOC HK2
      go_wp2_with fail
      try simp only [HWQ.out]
      refine Round.mk' HR2.out Hmu2.out rfl ?_ ?_
      · refine ⟨q + 1, C.set q ⟨99, i, ByteArray.empty⟩, rfl, HQN.out, by rw [List.length_set]; exact HCL.out, fun p h hp => ?_, HO10.out, HK10.out⟩
        rw [List.getElem_set]
        split
        · rfl
        · exact HMK.out p (by rw [List.length_set] at h; exact h) (by omega)
      · rw [Hh9.out]; have := HQN.out; simp [intOf, slots]; omega
    · have hqe : q = n := by have := HQ.out; omega
      have HCI : Hid (∀ y ∈ C, y.n = i) := hid (fun y hy => by
        obtain ⟨p, hp, rfl⟩ := List.getElem_of_mem hy
        exact HMK.out p hp (by have := HCL.out; omega))
      have HMA : Hid (MarkAt wy x i) := hid (by
        by_cases h0 : 0 < C.length
        · have ho := HOC.out
          have hxv := HXV.out
          rw [HXV.out] at ho
          obtain ⟨gx, rfl⟩ := own_some ho h0
          refine mark_of (x := x) (C := C) (E := []) (c := cx) (by rw [hxv, HNN.out]) (by rw [List.append_nil]; exact ho) (by rw [HCL.out, HNN.out]) HCI.out
        · intro q hq
          have := HCL.out; have := HNN.out; omega)
      have HKY : Hid (Keeps (fun b => some b ≠ x.v.ownBlock ∧ b < wx.heap.size) wx wy) := hid (HK2.out.mono fun b _ h => h.1)
      clear hqe HMK HK2
      go_upto_region 17 with (fail)
      go_wp2_with fail
      obtain ⟨R3, hR3⟩ : ∃ RR_ : (Nat → Value) → World → Prop, RR_ = (fun us wz => ∃ (m : Nat) (E : List Val) (vg : Value), us 11 = .int .i64 m ∧ m ≤ 12 ∧ us 10 = vg ∧ E.length = m ∧ wz.ownsRow w4.heap.size 45 3 vg (n + m) (valCells (C ++ E)) ∧ MarkAt wz x i ∧ Keeps (fun b => some b ≠ x.v.ownBlock ∧ b < wx.heap.size) wx wz ∧ (vg.ownBlock = x.v.ownBlock ∨ ∀ b, vg.ownBlock = some b → wx.heap.size ≤ b)) := ⟨_, rfl⟩
      obtain ⟨mu3, hmu3⟩ : ∃ mu : (Nat → Value) → World → Nat, mu = (fun us _ => 12 - (intOf (us 11)).toNat) := ⟨_, rfl⟩
      have HR3 := hid hR3; have Hmu3 := hid hmu3; clear hR3 hmu3
      refine wp_loop_frame' [false, false, false, false, false, false, false, false, false, false, true, true, false, false, false, false, false, false, false, false, false, false, false, false, false, false, false, false, false, false, false, false, false, false, false, false, false, false, false, false, false, false, false, false, false, false, false, false, false, false, false, false, false, false, false, false, false, false, false, false, false, false, false, false, false, false, false, false, false, false, false, false, false, true, true, true, true, true, true, true, true] R3 _ mu3 HR3.out ?_ ?_
      · exact ⟨0, [], _, rfl, Nat.zero_le _, rfl, rfl, by rw [List.append_nil]; have h := HOC.out; rw [HXV.out] at h; exact h, HMA.out, HKY.out, .inl (by rw [HXV.out]; rfl)⟩
      clear HOC HMA HKY p2
      intro us3 wz hrel
      obtain ⟨m, E, vg, h11, hm, h10, he, ho, hma, hk, hb⟩ := hrel
      simp only [frameOf, Nat.reduceAdd, h11, h10]
      have Hh11 := hid h11; clear h11
      have Hh10 := hid h10; clear h10
      obtain ⟨ag, cg, rfl⟩ := ownsRow_slice ho
      have HM12 := hid hm; have HEL := hid he; have HOG := hid ho; have HMA := hid hma; have HKZ := hid hk; have HBG := hid hb
      clear hm he ho hma hk hb
      by_cases hm12 : m < 12
      · have HWM : Hid (wrap64 ((m : Int) + 1) = ((m + 1 : Nat) : Int)) := hid (by unfold wrap64; omega)
        go_wp2_with (at_builtin; go_loud (refine wpList_append_objx rfl _ _ 40 rfl 45 3 32 Try.underlying40 valElem rfl (owns_at HOG.out (Later.alloc _ _)) (news := [.int .i64 98, .int .i64 0, .string ⟨#[]⟩]) rfl (obj_at (by simp)) rfl (val_ones) ?d1 ?d2 ?d3 ?_))
        case d1 => have := HNR.out; omega
        case d2 => have := HNR.out; unfold maxLen; omega
        case d3 => have := HK.out.size; have := HKZ.out.size; simp only [World.size_alloc]; omega
        intro v7 w7 hA7
        have hal := Later.alloc wz (.cells #[.int .i64 98, .int .i64 0, .string ⟨#[]⟩] 45 (0, 0))
        obtain ⟨y, hy⟩ : ∃ y : Val, y = ⟨98, 0, ⟨#[]⟩⟩ := ⟨_, rfl⟩
        have hcell : valCells (C ++ E) ++ [.int .i64 98, .int .i64 0, .string ⟨#[]⟩] = valCells (C ++ (E ++ [y])) := by rw [← List.append_assoc, valCells_app (C ++ E) [y], hy]; rfl
        have ho7 : w7.ownsRow w4.heap.size 45 3 v7 (n + (m + 1)) (valCells (C ++ (E ++ [y]))) := by
          have := hA7.own
          rw [← hcell]
          exact this
        have hkz := HKZ.out.more hal
        have hmz := HMA.out.keep (hal.keeps (fun _ => True)) (fun _ _ => trivial)
        have hall : MarkAt w7 x i ∧ Keeps (fun b => some b ≠ x.v.ownBlock ∧ b < wx.heap.size) wx w7 ∧ (v7.ownBlock = x.v.ownBlock ∨ ∀ b, v7.ownBlock = some b → wx.heap.size ≤ b) := by
          rcases hA7.kind with ⟨g, cap, e1, e2, k⟩ | ⟨k, hnew⟩
          · simp only [Value.slice.injEq, true_and] at e1
            obtain ⟨rfl, rfl⟩ := e1
            subst e2
            rcases HBG.out with hb | hb
            · have hxv := HXV.out
              have hax : ax = some ⟨g, 0, none⟩ ∨ True := .inr trivial
              have hgx : x.v.ownBlock = some g := hb.symm
              refine ⟨?_, hkz.trans (k.mono fun b _ h e => h.1 (by rw [hgx, e])), .inl hgx.symm⟩
              have hown := ownsRow_slice HOWN.out
              by_cases h0 : 0 < C.length
              · have hon := HOWN.out
                rw [hxv] at hon
                obtain ⟨gx, hgx2⟩ := own_some hon (by rw [← HNN.out, ← HCL.out]; exact h0)
                rw [hxv, hgx2] at hgx
                simp only [Value.ownBlock, Option.some.injEq] at hgx
                subst hgx
                refine mark_of (x := x) (C := C) (E := E ++ [y]) (c := cx) (by rw [hxv, hgx2, HNN.out]) ho7 (by rw [HCL.out, HNN.out]) HCI.out
              · intro q hq
                have := HCL.out; have := HNN.out; omega
            · have hgb := hb g rfl
              refine ⟨hmz.keep k fun b hb' e => ?_, hkz.trans (k.mono fun b _ h e => by omega), .inr fun b hb' => hb b hb'⟩
              have := (HBX.out b hb').2
              omega
          · refine ⟨hmz.keep (k.keeps (fun _ => True)) (fun _ _ => trivial), hkz.more k, .inr fun b hb' => ?_⟩
            have h1 := hnew b hb'
            have h2 := hkz.size
            omega
        have HO7 := hid ho7; have HALL := hid hall
        clear hA7 hal hcell ho7 hkz hmz hall hy
        go_wp2_with fail
        try simp only [HWM.out]
        refine Round.mk' HR3.out Hmu3.out rfl ?_ ?_
        · exact ⟨m + 1, E ++ [y], v7, rfl, hm12, rfl, by rw [List.length_append, HEL.out]; rfl, HO7.out, HALL.out.1, HALL.out.2.1, HALL.out.2.2⟩
        · rw [Hh11.out]; simp [intOf, slots]; omega
      · have hme : m = 12 := by have := HM12.out; omega
        subst hme
        have p2 := HKZ.out.cell (p := ⟨g5, i * 2 + 1, none⟩) ⟨HO5X.out g5 rfl, (ownb HO.out g5 rfl).2⟩ HP2.out
        have hn12 : wrap64 ((n : Int) + 12) = (n : Int) + 12 := by have := HNR.out; unfold wrap64; omega
        have hn13 : IntKind.i64.wrap ((n : Int) + 12) = (n : Int) + 12 := by have := HNR.out; exact IntWalk.i64_in _ (by omega)
        have hn14 : ((n + 12 : Nat) : Int) = (n : Int) + 12 := by omega
        have hn15 : (((n : Int) + 12) != ((n : Int) + 12)) = false := by simp
        go_wp2_with fail
        try simp only [HWI.out]
        refine Round.mk' HR1.out Hmu1.out rfl ?_ ?_
        · refine ⟨i + 1, rfl, HLT.out, owns_keep HO.out HKZ.out fun b hb => ⟨HO5X.out b hb, (ownb HO.out b hb).2⟩, fun j h hj => ?_, fun j h hj => ?_, HK.out.trans (HKZ.out.mono fun b _ hb => ⟨fun e => ?_, ?_⟩)⟩
          · by_cases hji : j = i
            · subst hji; rw [show xs[j] = x from HXI.out]; exact HMA.out
            · have hmj := HM.out j h (by omega)
              by_cases h0 : 0 < (xs[j]'h).row.vals.length
              · refine hmj.keep HKZ.out fun b hb => ⟨fun e => HAPI.out j h hji b hb e.symm, ?_⟩
                obtain ⟨g, c', e1, c1⟩ := hmj 0 h0
                rw [e1] at hb
                simp only [Value.ownBlock, Option.some.injEq] at hb
                subst hb
                exact cell_lt c1
              · intro q hq
                exact absurd (Nat.lt_of_le_of_lt (Nat.zero_le q) hq) h0
          · exact owns_keep (HD.out j h (by omega)) HKZ.out fun b hb => ⟨fun e => HAPI.out j h (by omega) b hb e.symm, (ownb (HD.out j h (by omega)) b hb).2⟩
          · have := (HBX.out b e.symm).1; omega
          · have := HK.out.size; omega
        · rw [Hh8.out]; have := HLT.out; simp [intOf, slots]; omega
  · have hie : i = xs.length := by have := HI.out; omega
    have HMM : Hid (∀ j (h : j < xs.length), MarkAt wx xs[j] j) := hid (fun j h => HM.out j h (by omega))
    have HIW := hid ((SliceOf.rows_kept HIN2.out HK.out fun b h => h).rows_mono (S' := All) fun _ _ => trivial)
    have HVW := hid ((SliceOf.rows_kept HV4.out HK.out fun b h => h).rows_mono (S' := All) fun _ _ => trivial)
    have HAW : Hid (OwnR G wx (.slice (some ⟨G, 0, none⟩) (l.length + 70) (l.length + 70)) (rx ++ List.replicate 70 nilRX)) := hid (owns_keep HO4.out HK.out fun b hb => (ownb HO4.out b hb).2)
    have HLW := hid (later_keep HL4.out HK.out HL4.out.size)
    clear hie HM HD HK HIN2 HV4 HO4 HL4
    go_wp2_with fail
    refine (same_rows l l _ _ _ HIW.out HVW.out).mono ?_
    rintro e w9 ⟨rfl, hL9⟩
    rw [sameR_refl]
    have HA9 := hid (owns_at HAW.out hL9); have HO9 := hid (owns_at HO.out hL9); have HL9 := hid (Later.trans _ _ _ HLW.out hL9)
    have HM9 : Hid (∀ j (h : j < xs.length), MarkAt w9 xs[j] j) := hid (fun j h => (HMM.out j h).keep (hL9.keeps (fun _ => True)) fun _ _ => trivial)
    clear hL9 HAW HO HLW HMM HIW HVW
    go_wp2_with fail
    obtain ⟨R4, hR4⟩ : ∃ RR_ : (Nat → Value) → World → Prop, RR_ = (fun us wy => ∃ k : Nat, us 13 = .int .i64 k ∧ us 12 = .bool true ∧ l.length ≤ k ∧ k ≤ l.length + 70 ∧ w9 = wy) := ⟨_, rfl⟩
    obtain ⟨mu4, hmu4⟩ : ∃ mu : (Nat → Value) → World → Nat, mu = (fun us _ => l.length + 70 - (intOf (us 13)).toNat) := ⟨_, rfl⟩
    have HR4 := hid hR4; have Hmu4 := hid hmu4; clear hR4 hmu4
    refine wp_loop_frame' [false, false, false, false, false, false, false, false, false, false, false, false, true, true, false, false, false, false, false, false, false, false, false, false, false, false, false, false, false, false, false, false, false, false, false, false, false, false, false, false, false, false, false, false, false, false, false, false, false, false, false, false, false, false, false, false, false, false, false, false, false, false, false, false, false, false, false, false, false, false, false, false, false, false, false, false, false, false, false, false, false, false, false, false, false, false, false, false, false, false, false, false, false, false, false, false, false, false, false, true, true, true, true, true, true, true, true, true, true, true, true, true, true, true, true, true, true, true, true, true, true, true] R4 _ mu4 HR4.out ?_ ?_
    · exact ⟨l.length, rfl, rfl, Nat.le_refl _, Nat.le_add_right _ _, rfl⟩
    intro us4 wy hrel
    obtain ⟨k, h13, h12, hk1, hk2, rfl⟩ := hrel
    simp only [frameOf, Nat.reduceAdd, h13, h12]
    have Hh13 := hid h13; clear h13
    have Hh12 := hid h12; clear h12
    have HK1 := hid hk1; have HK2 := hid hk2
    clear hk1 hk2
    by_cases hk : k < l.length + 70
    · have HKK := hid hk
      have HWK : Hid (wrap64 ((k : Int) + 1) = ((k + 1 : Nat) : Int)) := hid (by have := HLL.out; unfold wrap64; omega)
      have hkl : k < (rx ++ List.replicate 70 nilRX).length := by rw [List.length_append, List.length_replicate, HRL.out]; exact hk
      obtain ⟨g', eg, -, q1, q2, -⟩ := OwnR.cells HA9.out hkl
      simp only [Option.some.injEq, Addr.mk.injEq, and_true] at eg
      subst eg
      have hget : (rx ++ List.replicate 70 nilRX)[k]'hkl = nilRX := by
        rw [List.getElem_append_right (by rw [HRL.out]; exact HK1.out), List.getElem_replicate]
      rw [hget] at q1 q2
      replace q1 : w9.cell? ⟨G, k * 2, none⟩ = some (.int .i64 0) := q1
      replace q2 : w9.cell? ⟨G, k * 2 + 1, none⟩ = some (.slice none 0 0) := q2
      have hkk : (k : Int) < (l.length : Int) + 70 := by omega
      have he := fun (w : World) => Lib.run_eql_slice_nil (P := Try.prog) w 40 45 none 0 0 0 0 Try.underlying40
      clear hget hkl
      go_wp2_with fail
      try simp only [HWK.out]
      refine Round.mk' HR4.out Hmu4.out rfl ?_ ?_
      · exact ⟨k + 1, rfl, rfl, by have := HK1.out; omega, HKK.out, rfl⟩
      · rw [Hh13.out]; have := HKK.out; simp [intOf, slots]; omega
    · have hkk : ¬ (k : Int) < (l.length : Int) + 70 := by omega
      go_wp2_with fail
      refine (marked_any w4.heap.size xs _ _ HO9.out HXS.out HM9.out HLB.out fun x hx => by have := HXR.out x hx; omega).mono ?_
      rintro e w10 ⟨rfl, rfl⟩
      go_wp2_with fail
      go_ret
      exact ⟨rfl, HL9.out⟩
end Go.Proofs.Ythfgjmdmcoogpaa
