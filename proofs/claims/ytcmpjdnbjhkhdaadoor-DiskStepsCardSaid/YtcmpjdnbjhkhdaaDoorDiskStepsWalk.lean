/-
  PROVED HERE: streamwrightlaw12.DiskSteps walked: it returns true.
-/
import Derived.Test.YtcmpjdnbjhkhdaaDoorStepsKit
import Derived.Test.YtcmpjdnbjhkhdaaDoorCopyZero
import Derived.Test.YtcmpjdnbjhkhdaaDoorAggAcc
import Derived.Test.YtcmpjdnbjhkhdaaDoorBlockCut
namespace Go.Proofs.YtcmpjdnbjhkhdaaDoor
set_option linter.unusedSimpArgs false
set_option linter.unusedVariables false
open Go.RowKit

def AtRound (w : World) (A M : Nat) (i : Nat) (u : Value) (F : List FE) (wx : World) : Prop := F.length ≤ i ∧ DHas w wx (fun b => some b ≠ u.ownBlock) A M i F ∧ OwnF w.heap.size wx u F ∧ AllGood w F
set_option maxRecDepth 100000 in
set_option maxHeartbeats 4000000 in
theorem steps_walk (v : Value) (l : List OpD) (w : World) (hv : IsOpsD w v l) (hlen : l.length * 56 ≤ 140737488355328) (hgd : ∀ x ∈ l, GoodOp w x) (hg : Laid w) : Calls Tryd.prog 6 #[v] w (BoolTo w true) := by
  obtain ⟨p, c, rfl, hlc, hcm, -, hel⟩ := hv
  have HLEN := hid hlen; have HGD := hid hgd; have HG := hid hg; have HU := hid hel
  clear hlen hgd hg hel hlc hcm
  go_enter Tryd.func6, Tryd.ntmps6
  go_wp2_with fail
  refine (new_step w w (Later.refl _)).mono ?_
  rintro e w1 ⟨A, M, rfl, hd, hL1⟩
  have HD1 := hid hd
  clear hd hL1
  go_wp2_with fail
  obtain ⟨R1, hR1⟩ : ∃ RR_ : (Nat → Value) → World → Prop, RR_ = (fun us wx => ∃ (i : Nat) (u : Value) (F : List FE), us 5 = .int .i64 i ∧ us 4 = u ∧ i ≤ l.length ∧ AtRound w A M i u F wx) := ⟨_, rfl⟩
  obtain ⟨mu1, hmu1⟩ : ∃ mu : (Nat → Value) → World → Nat, mu = (fun us _ => l.length - (intOf (us 5)).toNat) := ⟨_, rfl⟩
  have HR1 := hid hR1; have Hmu1 := hid hmu1; clear hR1 hmu1
  refine wp_loop_frame' [false, false, true, false, true, true, true, true, true, true, true, true, true, true, true, true, true, true, true, true, true, true, false, false, false, true, true, true, true, true, true, true, true, true, true, true, true, true, true, true, true, true, true, true, true, true, true, true, true, true, true, true, true, true, true, true, true, true, true, true, true, true, true, true, true, true, true, true, true, true, true, true, true, true, true, true, true, true, true, true, true, true, true, true, true, true, true, true, true, true, true, true, true, true, true, true, true, true, true, true, true, true, true, true, true, true, true, true, true, true, true, true, true, true, true, true, true, true, true, true, true, true, true, true, true, true, true, true, true, true, true, true, true, true, true, true, true, true, true, true, true, true, true, true, true, true, true, true, true, true, true, true, true, true, true, true, true, true, true, true, true, true, true, true, true, true, true, true, true, true, true, true, true, true, true, true, true, true, true, true, true, true, true, true, true, true, true, true, true, true, true, true, true, true, true, true, true, true, true] R1 _ mu1 HR1.out ?_ ?_
  · exact ⟨0, _, [], rfl, rfl, Nat.zero_le _, Nat.le_refl _, HD1.out.renew (fun b _ _ e => by cases e), OwnF.nil _ _, fun x hx => by cases hx⟩
  clear HD1
  intro us1 wx hrel
  obtain ⟨i, u, F, h5, h4, hi, hFi, hd, hof, hag⟩ := hrel
  simp only [frameOf, Nat.reduceAdd, h5, h4]
  have Hh5 := hid h5; clear h5
  have Hh4 := hid h4; clear h4
  have HI := hid hi; have HFI := hid hFi; have HD := hid hd; have HOF := hid hof; have HAG := hid hag
  obtain ⟨ua, uc, rfl⟩ := hof.slice
  clear hi hFi hd hof hag
  by_cases hlt : i < l.length
  · have HLT := hid hlt
    obtain ⟨b, o, rfl, -, q0, q1, q2, q3⟩ := HU.out i hlt
    obtain ⟨hlow, hname, hdata⟩ := HGD.out _ (List.getElem_mem hlt)
    generalize l[i] = x at *
    obtain ⟨xk, xa, name, dv, data⟩ := x
    simp only at hlow hname hdata q0 q1 q2 q3
    have HLOW := hid hlow; have HNAME := hid hname; have HDATA := hid hdata
    obtain ⟨da, dc, rfl, -⟩ := hlow
    obtain ⟨D, hD⟩ : ∃ D, D = data.length := ⟨_, rfl⟩
    have HDD := hid hD
    rw [← hD] at q3 HLOW HDATA
    have hbw : b < w.heap.size := cell_lt q0
    replace q0 := HD.out.keep0.cell hbw q0
    replace q1 := HD.out.keep0.cell (p := ⟨b, o + i * 4 + 1, none⟩) hbw q1
    replace q2 := HD.out.keep0.cell (p := ⟨b, o + i * 4 + 2, none⟩) hbw q2
    replace q3 := HD.out.keep0.cell (p := ⟨b, o + i * 4 + 3, none⟩) hbw q3
    have hbx := cell_lt q0
    clear hname hdata hD hbw
    go_upto_region 9 with (fail)
    obtain ⟨w2, hw2⟩ : ∃ w2, w2 = wx.alloc (.cells #[.int .i64 xk, .int .i64 xa, .string (strB name), .slice da D dc] 47 (0, 0)) := ⟨_, rfl⟩
    obtain ⟨O, hO⟩ : ∃ O, O = wx.heap.size := ⟨_, rfl⟩
    have HOB : Hid (w2.heap[O]? = some (.cells #[.int .i64 xk, .int .i64 xa, .string (strB name), .slice da D dc] 47 (0, 0))) := hid (by rw [hw2, hO]; exact obj_new _ _)
    have HL2 : Hid (Later wx w2) := hid (by rw [hw2]; exact Later.alloc _ _)
    have HOS : Hid (O = wx.heap.size) := hid hO
    rw [← hw2, ← hO]
    clear hw2 hO q0 q1 q2 q3 hbx
    have o0 := cell_obj (i := 0) HOB.out (v := .int .i64 xk) rfl
    have o2 := cell_obj (i := 2) HOB.out (v := .string (strB name)) rfl
    have hOl := cell_lt o0
    go_wp2_with fail
    refine (find_any (HOF.out.later HL2.out) name).mono ?_
    intro e w3 hf
    obtain ⟨hw3, q, rfl, hq⟩ := found_of hf
    rw [hw3]
    have HQ := hid hq
    clear hf hq hw3
    go_upto_if 53 with (fail)
    clear o0 o2 hOl
    obtain ⟨R5, hR5⟩ : ∃ RR_ : (Nat → Value) → World → Prop, RR_ = (fun us wy => ∃ (u2 : Value) (F2 : List FE), us 4 = u2 ∧ AtRound w A M (i + 1) u2 F2 wy) := ⟨_, rfl⟩
    have HR5 := hid hR5; clear hR5
    refine wp_block_frame' [false, false, false, false, true, false, false, false, true, true, true, true, true, true, true, true, true, false, false, false, false, false, false, false, false, false, false, false, false, false, false, false, false, false, false, false, false, false, false, false, false, true, true, true, true, true, true, true, true, true, true, true, true, true, true, true, true, true, true, true, true, true, true, true, true, true, true, true, true, true, true, true, true, true, true, true, true, true, true, true, true, true, true, true, true, true, true, true, true, true, true, true, true, true, true, true, true, true, true, true, true, true, true, true, true, true, true, true, true, true, true, true, true, true, true, true, true, true, true, true, true, true, true, true, true, true, true, true, true, true, true, true, true, true, true, true, true, true, true, true, true, true, true, true, true, true, true, true, true, true, true, true, true, true, true, true, true, true, true, true, true, true, true, true, true, true, true, true, true, true, true, true] R5 _ HR5.out ?_ ?_
    · by_cases hk0 : xk = 0
      · subst hk0
        have o3 := cell_obj (i := 3) HOB.out (v := .slice da D dc) rfl
        have hOl := cell_lt o3
        go_wp2_with (at_make; go_loud (refine wpList_makeN (n := D) rfl _ _ 45 rfl w2.heap.size 5 _ 1 1 Tryd.underlying45 infoU8 rfl rfl ?m1 ?m2 ?m3 ?m4 (Nat.le_refl _) ?_))
        case m1 => rfl
        case m2 => rfl
        case m3 => have := HDATA.out; omega
        case m4 => have := HDATA.out; unfold maxLen; omega
        intro w3 hown hgrow
        obtain ⟨G, hG⟩ : ∃ G, G = w2.heap.size := ⟨_, rfl⟩
        rw [← hG] at hown ⊢
        have HGW : Hid (G = w2.heap.size) := hid hG
        have HLM := hid (grown_none hgrow)
        obtain ⟨cur, hcur, hcl⟩ : ∃ cur : List Value, w3.heap[G]? = some (.cells cur.toArray 5 (0, 0)) ∧ cur.length = D := ⟨_, owned_block hown, by rw [hown.1, Nat.mul_one]⟩
        have HCUR := hid hcur; have HCL := hid hcl
        replace o3 := HLM.out.cell o3
        replace hOl := cell_lt o3
        clear hown hgrow hG hcur hcl
        have HLOW3 : Hid (BytesIn (fun b => b < w.heap.size) w3 (.slice da D dc) data) := hid ((HLOW.out.bytes_kept HD.out.keep0 fun b h => h).bytes_later (Later.trans _ _ _ HL2.out HLM.out))
        obtain ⟨i0, hi, hz0, hz1, hz2⟩ := info_parts infoU8
        have HI0 := hid hi; have HZ1 := hid hz1
        clear hi hz0 hz1 hz2
        go_wp2_with (refine wpList_copy_list rfl _ _ 45 45 rfl 5 i0 1 Tryd.underlying45 HI0.out HZ1.out (by decide) G D D da D dc rfl rfl cur _ HCUR.out (Nat.le_refl _) ?n0 (byteCells data) ?n3 ?n1 ?n2 (byteCells_one _) ?_)
        case n0 => rw [HCL.out]; omega
        case n3 => rw [byteCells_length, HDD.out]
        case n1 =>
          intro h
          obtain ⟨a', c', e', h1, h2, h3, -⟩ := HLOW3.out
          simp only [Value.slice.injEq] at e'
          obtain ⟨rfl, e2, rfl⟩ := e'
          have := h3 h
          omega
        case n2 => exact fun ad e j u hu => SliceOf.news HLOW3.out rfl e j u hu
        intro w4 h4 hk4
        have HL4 : Hid (Later w2 w4) := hid (((HLM.out.keeps (fun b => b ≠ G)).trans hk4).mono (S' := fun _ => True) (fun k hk _ => by rw [HGW.out]; omega) |>.later)
        have HRO4 : Hid (RowObj w4 G D) := hid ⟨_, _, h4, by simp [byteCells_length, HDD.out]⟩
        have HB4 : Hid (IsBytes w4 (.slice (some ⟨G, 0, none⟩) D D) data) := hid ⟨some ⟨G, 0, none⟩, D, by rw [HDD.out], by rw [HDD.out]; exact Nat.le_refl _, by have := HDATA.out; unfold maxLen; omega, (fun h => by cases h), fun j hj => ⟨G, 0, rfl, trivial, cell_obj h4 (by
          rw [List.getElem?_toArray, List.getElem?_append_left (by rw [byteCells_length]; omega)]
          unfold byteCells
          rw [List.getElem?_map, show 0 + j * 1 = j by omega, List.getElem?_eq_getElem hj]
          rfl)⟩⟩
        have o2 := HL4.out.cell (cell_obj (i := 2) HOB.out (v := .string (strB name)) rfl)
        have hO4 := cell_lt o2
        have HWX : Hid (wx.heap.size ≤ G ∧ G < w4.heap.size) := hid (And.intro (by have := HL2.out.size; have := HGW.out; omega) (Array.getElem?_eq_some_iff.1 h4).1)
        have HUB : Hid (∀ b, some b = (Value.slice ua F.length uc).ownBlock → b < wx.heap.size) := hid fun b e => (ownb HOF.out b e.symm).2
        have H4 : Hid (DHas w w4 (fun b => some b ≠ (Value.slice ua F.length uc).ownBlock ∧ b < wx.heap.size) A M i F) := hid ((HD.out.renew (fun b h h2 => ⟨h, h2⟩)).later (Later.trans _ _ _ HL2.out HL4.out))
        clear h4 hk4 o3 hOl HLOW3 HLM HCUR HCL
        go_wp2_with fail
        refine (write_step (N' := fun b => some b ≠ (Value.slice ua F.length uc).ownBlock ∧ b ≠ G) H4.out ⟨name, .slice da D dc, data, true⟩ rfl HNAME.out _ HB4.out ?c1 ?c2 ?c3 ?c4 ?c5).mono ?_
        case c1 => have := HDATA.out; have := HDD.out; simp only; omega
        case c2 => have := HLT.out; have := HLEN.out; unfold maxLen; omega
        case c3 => have := HLT.out; have := HLEN.out; have := HFI.out; omega
        case c4 => intro b hb _; exact ⟨hb.1, by have := HWX.out; omega⟩
        case c5 => intro b hb; exact ⟨fun e => by have := HUB.out b e; have := HWX.out; omega, by have := HWX.out; omega⟩
        intro e w5 h5
        obtain ⟨cc, rfl, hcc⟩ : ∃ cc : Int, e = .returned (errVal cc) ∧ cc = if hasF F name = true then 6 else 0 := ⟨_, h5.1, rfl⟩
        obtain ⟨F1, hd5, hF1⟩ : ∃ F1, DHas w w5 (fun b => some b ≠ (Value.slice ua F.length uc).ownBlock ∧ b ≠ G) A M (i + 1) F1 ∧ F1 = if hasF F name = true then F else F ++ [(⟨name, .slice da D dc, data, true⟩ : FE)] := ⟨_, h5.2.1, rfl⟩
        have hk5 := h5.2.2 (fun b => ¬ (some b ≠ (Value.slice ua F.length uc).ownBlock ∧ b < wx.heap.size)) fun b h _ => h
        have HK5 := hid hk5
        have HCC := hid hcc; have HD5 := hid hd5; have HF1 := hid hF1
        clear h5 hk5 hcc hd5 hF1 o2 hO4 HB4 H4
        go_wp2_with fail
        refine (told_any cc w5 (HD5.out.keep0.cell (cell_lt HG.out) HG.out)).mono ?_
        rintro e w6 ⟨rfl, hL6⟩
        have HD6 := hid (HD5.out.later hL6)
        have HRO6 := hid ((HRO4.out.keep HK5.out (fun h => by have := h.2; have := HWX.out; omega)).later hL6)
        have HOB6 := hid (hL6.obj (HK5.out.obj (fun h => by have := h.2; have := HOS.out; omega) (HL4.out.obj HOB.out)))
        have HOF6 : Hid (OwnF w.heap.size w6 (.slice ua F.length uc) F) := hid ((((HOF.out.later HL2.out).later HL4.out).keep HK5.out (fun g hg h => h.1 hg.symm)).later hL6)
        clear hL6 HRO4 HD5 HK5
        go_wp2_with fail
        obtain ⟨R2, hR2⟩ : ∃ RR_ : (Nat → Value) → World → Prop, RR_ = (fun us wz => ∃ m : Nat, us 11 = .int .i64 m ∧ m ≤ D ∧ RowObj wz G D ∧ Keeps (fun b => b ≠ G) w6 wz) := ⟨_, rfl⟩
        obtain ⟨mu2, hmu2⟩ : ∃ mu : (Nat → Value) → World → Nat, mu = (fun us _ => D - (intOf (us 11)).toNat) := ⟨_, rfl⟩
        have HR2 := hid hR2; have Hmu2 := hid hmu2; clear hR2 hmu2
        refine wp_loop_frame' [false, false, false, false, false, false, false, false, false, false, false, true, false, false, false, false, false, false, false, false, false, false, false, false, false, false, false, false, false, false, false, false, false, false, false, false, false, false, false, false, false, false, false, false, false, false, false, false, false, false, false, false, false, false, false, false, false, false, false, false, false, false, false, false, false, false, false, false, false, false, true, true, true, true, true, true, true, true, true] R2 _ mu2 HR2.out ?_ ?_
        · exact ⟨0, rfl, Nat.zero_le _, HRO6.out, Keeps.refl _ _⟩
        clear HRO6
        intro us2 wz hrel
        obtain ⟨m, h11, hm, hro, hkz⟩ := hrel
        simp only [frameOf, Nat.reduceAdd, h11]
        have Hh11 := hid h11; clear h11
        have HM := hid hm; have HRO := hid hro; have HKZ := hid hkz
        clear hm hro hkz
        by_cases hml : m < D
        · have HML := hid hml
          obtain ⟨z, hz⟩ := HRO.out.cell hml
          have hzf := HRO.out.free m
          have hzl := cell_lt hz
          have HWM : Hid (wrap64 ((m : Int) + 1) = ((m + 1 : Nat) : Int)) := hid (by have := HDATA.out; unfold wrap64; omega)
          go_wp2_with fail
          try simp only [HWM.out]
          refine Round.mk' HR2.out Hmu2.out rfl ?_ ?_
          · exact ⟨m + 1, rfl, HML.out, HRO.out.set _ _, HKZ.out.setCell (p := ⟨G, m, none⟩) (.inl fun h => h rfl) _⟩
          · rw [Hh11.out]; have := HML.out; simp [intOf, slots]; omega
        · have HDZ := hid (HD6.out.keep HKZ.out (fun b hb => by have := HWX.out; have := HD.out.keep0.size; omega) (fun b hb _ => hb.2))
          have HOFZ : Hid (OwnF w.heap.size wz (.slice ua F.length uc) F) := hid (HOF6.out.keep HKZ.out (fun g hg => by have := HUB.out g hg.symm; have := HWX.out; omega))
          have HOBZ := hid (HKZ.out.obj (by have := HWX.out; have := HGW.out; have := (Array.getElem?_eq_some_iff.1 HOB.out).1; omega) HOB6.out)
          clear HD6 HOF6 HOB6 HRO HKZ
          rcases HQ.out with ⟨rfl, hno⟩ | ⟨k, hk, rfl, hkn, hyes⟩
          · obtain rfl : cc = 0 := by rw [HCC.out, hno]; rfl
            obtain rfl : F1 = F ++ [(⟨name, .slice da D dc, data, true⟩ : FE)] := by rw [HF1.out, hno]; rfl
            have o2 := cell_obj (i := 2) HOBZ.out (v := .string (strB name)) rfl
            have o3 := cell_obj (i := 3) HOBZ.out (v := .slice da D dc) rfl
            have hOl := cell_lt o3
            have HOA : Hid ((wz.alloc (.cells #[.string (strB name), .slice da D dc, .bool true] 51 (0, 0))).ownsRow w.heap.size 51 3 (.slice ua F.length uc) F.length (fileCells F)) := hid (HOFZ.out.later (Later.alloc _ _))
            have HWA : Hid (w.heap.size ≤ (wz.alloc (.cells #[.string (strB name), .slice da D dc, .bool true] 51 (0, 0))).heap.size) := hid (HDZ.out.later (Later.alloc _ _)).keep0.size
            have HDA := hid (HDZ.out.later (Later.alloc wz (.cells #[.string (strB name), .slice da D dc, .bool true] 51 (0, 0))))
            clear hno
            go_wp2_with (at_builtin; refine wpList_append_objx rfl _ _ 44 rfl 51 3 48 Tryd.underlying44 fileElem rfl HOA.out (news := [.string (strB name), .slice da D dc, .bool true]) rfl (obj_new wz _) rfl (fun z hz => by simp only [List.mem_cons, List.not_mem_nil, or_false] at hz; rcases hz with rfl | rfl | rfl <;> rfl) ?c1 ?c2 HWA.out ?_)
            case c1 => have := HLT.out; have := HLEN.out; have := HFI.out; omega
            case c2 => have := HLT.out; have := HLEN.out; have := HFI.out; unfold maxLen; omega
            intro v7 w7 hx7
            obtain ⟨hk7, hb7⟩ := appx_keeps hx7
            have HK7 := hid hk7; have HB7 := hid hb7
            have HO7 : Hid (OwnF w.heap.size w7 v7 (F ++ [(⟨name, .slice da D dc, data, true⟩ : FE)])) := hid (by
              have h := hx7.own
              unfold OwnF
              have e : fileCells (F ++ [(⟨name, .slice da D dc, data, true⟩ : FE)]) = fileCells F ++ [.string (strB name), .slice da D dc, .bool true] := by rw [fileCells_app]; rfl
              rw [List.length_append, e]
              exact h)
            clear hx7 hk7 hb7 o2 o3 hOl
            go_wp2_with fail
            refine Meet.mk' HR5.out rfl ?_
            refine ⟨v7, _, rfl, ?_, ?_, HO7.out, ?_⟩
            · rw [List.length_append, List.length_singleton]; have := HFI.out; omega
            · refine (HDA.out.renew (N' := fun b => some b ≠ (Value.slice ua F.length uc).ownBlock ∧ some b ≠ v7.ownBlock) fun b hb hlt => ⟨hb.1, ?_⟩).keep HK7.out (fun b hb e => by have := (ownb HOF.out b e.symm).1; omega) (fun b hb _ => hb.1) |>.renew fun b hb _ => hb.2
              rcases HB7.out with h | h
              · rw [h]; exact hb.1
              · intro e; have := h b e.symm; omega
            · intro y hy
              rcases List.mem_append.1 hy with hy | hy
              · exact HAG.out y hy
              · obtain rfl := List.mem_singleton.1 hy
                exact ⟨HLOW.out, HNAME.out, by rw [← HDD.out]; exact HDATA.out⟩
          · obtain rfl : cc = 6 := by rw [HCC.out, hyes]; rfl
            obtain rfl : F1 = F := by rw [HF1.out, hyes]; rfl
            have hk0 : ¬ (k : Int) < 0 := by omega
            have hk1 : (0 : Int) ≤ k := by omega
            clear hyes hkn hk
            go_wp2_with fail
            refine Meet.mk' HR5.out rfl ?_
            exact ⟨_, F1, rfl, by have := HFI.out; omega, HDZ.out.renew fun b hb _ => hb.1, HOFZ.out, HAG.out⟩
      have HD2 : Hid (DHas w w2 (fun b => some b ≠ (Value.slice ua F.length uc).ownBlock ∧ b < wx.heap.size) A M i F) := hid ((HD.out.renew (fun b h h2 => ⟨h, h2⟩)).later HL2.out)
      have HUB : Hid (∀ b, some b = (Value.slice ua F.length uc).ownBlock → w.heap.size ≤ b ∧ b < wx.heap.size) := hid fun b e => ownb HOF.out b e.symm
      have HOF2 := hid (HOF.out.later HL2.out)
      by_cases hk1 : xk = 1
      · subst hk1
        go_wp2_with fail
        refine (sync_step HD2.out).mono ?_
        rintro e w3 ⟨rfl, hd3, ho3⟩
        have HD3 := hid hd3
        have hk3 := ho3 (fun b => some b = (Value.slice ua F.length uc).ownBlock) fun b h _ h2 => h2.1 h
        have HOF3 : Hid (OwnF w.heap.size w3 (.slice ua F.length uc) F) := hid (HOF2.out.keep hk3 (fun g hg => hg.symm))
        clear hd3 ho3 hk3
        go_wp2_with fail
        obtain ⟨R3, hR3⟩ : ∃ RR_ : (Nat → Value) → World → Prop, RR_ = (fun us wz => ∃ m : Nat, us 12 = .int .i64 m ∧ m ≤ F.length ∧ OwnF w.heap.size wz (.slice ua F.length uc) (stayed m F) ∧ Keeps (fun b => some b ≠ (Value.slice ua F.length uc).ownBlock) w3 wz) := ⟨_, rfl⟩
        obtain ⟨mu3, hmu3⟩ : ∃ mu : (Nat → Value) → World → Nat, mu = (fun us _ => F.length - (intOf (us 12)).toNat) := ⟨_, rfl⟩
        have HR3 := hid hR3; have Hmu3 := hid hmu3; clear hR3 hmu3
        refine wp_loop_frame' [false, false, false, false, false, false, false, false, false, false, false, false, true, false, false, false, false, false, false, false, false, false, false, false, false, false, false, false, false, false, false, false, false, false, false, false, false, false, false, false, false, false, false, false, false, false, false, false, false, false, false, false, false, false, false, false, false, false, false, false, false, false, false, false, false, false, false, false, false, false, false, false, false, false, false, false, false, false, false, false, false, false, false, false, false, false, false, false, false, false, false, false, false, false, false, false, false, false, false, false, false, false, false, false, false, false, false, true, true, true, true, true, true, true, true, true, true] R3 _ mu3 HR3.out ?_ ?_
        · exact ⟨0, rfl, Nat.zero_le _, HOF3.out, Keeps.refl _ _⟩
        clear HOF3
        intro us3 wz hrel
        obtain ⟨m, h12, hm, ho, hkz⟩ := hrel
        simp only [frameOf, Nat.reduceAdd, h12]
        have Hh12 := hid h12; clear h12
        have HM := hid hm; have HO := hid ho; have HKZ := hid hkz
        clear hm ho hkz
        by_cases hml : m < F.length
        · have HML := hid hml
          have hmn : m < (stayed m F).length := by rw [stayed_len]; exact hml
          obtain ⟨g, rfl, -, -, -, p3, pf⟩ := HO.out.at hmn
          have hz2 := pf (m * 3 + 2)
          have hgl := cell_lt p3
          have HS1 : Hid (OwnF w.heap.size (wz.setCell ⟨g, m * 3 + 2, none⟩ (.bool false)) (.slice (some ⟨g, 0, none⟩) F.length uc) (stayed (m + 1) F)) := hid (by
            have h := HO.out.stays (stayed_len m F).symm hmn
            rw [stayed_succ hml] at h
            exact h)
          have HWM : Hid (wrap64 ((m : Int) + 1) = ((m + 1 : Nat) : Int)) := hid (by have := HFI.out; have := HLT.out; have := HLEN.out; unfold wrap64; omega)
          generalize ((stayed m F)[m]'hmn).loose = lo at p3
          clear pf hmn
          go_wp2_with fail
          try simp only [HWM.out]
          refine Round.mk' HR3.out Hmu3.out rfl ?_ ?_
          · exact ⟨m + 1, rfl, HML.out, HS1.out, HKZ.out.setCell (p := ⟨g, m * 3 + 2, none⟩) (.inl fun h => h rfl) _⟩
          · rw [Hh12.out]; have := HML.out; simp [intOf, slots]; omega
        · have hme : m = F.length := by have := HM.out; omega
          have HO1 : Hid (OwnF w.heap.size wz (.slice ua F.length uc) (F.map stay)) := hid (by have h := HO.out; rw [hme, stayed_all] at h; exact h)
          have HDZ := hid (HD3.out.keep HKZ.out (fun b hb e => by have := (HUB.out b e).1; omega) (fun b hb _ => hb.1))
          clear hme HO HKZ HD3
          go_wp2_with fail
          refine Meet.mk' HR5.out rfl ?_
          exact ⟨_, F.map stay, rfl, by rw [List.length_map]; have := HFI.out; omega, (HDZ.out.renew fun b hb _ => hb.1).mono (by omega), HO1.out, HAG.out.stays⟩
      by_cases hk2 : xk = 2
      · subst hk2
        have o1 := cell_obj (i := 1) HOB.out (v := .int .i64 xa) rfl
        have hOl := cell_lt o1
        go_wp2_with fail
        refine (crash_step HD2.out HAG.out (by have := HLT.out; have := HLEN.out; unfold maxLen; omega) xa).mono ?_
        rintro e w3 ⟨rfl, hd3, ho3⟩
        have HD3 := hid hd3
        have hk3 := ho3 (fun b => ¬ (some b ≠ (Value.slice ua F.length uc).ownBlock ∧ b < wx.heap.size)) fun b h _ => h
        have HOF3 : Hid (OwnF w.heap.size w3 (.slice ua F.length uc) F) := hid (HOF2.out.keep hk3 (fun g hg h => h.1 hg.symm))
        have HOB3 := hid (hk3.obj (fun h => by have := h.2; have := HOS.out; omega) HOB.out)
        clear hd3 ho3 hk3 o1 hOl
        have o1 := cell_obj (i := 1) HOB3.out (v := .int .i64 xa) rfl
        have hOl := cell_lt o1
        go_wp2_with fail
        refine (crash_any HOF3.out HAG.out.slF (by have := HFI.out; have := HLT.out; have := HLEN.out; omega) xa).mono ?_
        rintro e w4 ⟨v4, rfl, ho4, hL4⟩
        have HO4 := hid (ownsRow_base ho4 HD3.out.keep0.size)
        have HOB4 : Hid (∀ g, v4.ownBlock = some g → w3.heap.size ≤ g) := hid fun g hg => (ownb ho4 g hg).1
        have HL4 := hid hL4
        clear ho4 hL4 o1 hOl HOB3
        go_wp2_with fail
        refine Meet.mk' HR5.out rfl ?_
        refine ⟨v4, _, rfl, Nat.le_trans (crashF_len _ _ _) (by have := HFI.out; omega), (HD3.out.renew fun b hb hlt e => ?_).later HL4.out, HO4.out, HAG.out.crash _⟩
        have := HOB4.out b e.symm
        omega
      by_cases hk3 : xk = 3
      · subst hk3
        have o2 := cell_obj (i := 2) HOB.out (v := .string (strB name)) rfl
        have hOl := cell_lt o2
        obtain ⟨ob, hob⟩ : ∃ ob : Option (List UInt8), (match ob with | none => q = -1 ∧ name ∉ namesF F | some d => ∃ (k : Nat) (hk : k < F.length), q = k ∧ (F[k]'hk).name = name ∧ (F[k]'hk).data = d) := by
          rcases HQ.out with ⟨rfl, hno⟩ | ⟨k, hk, rfl, hkn, -⟩
          · exact ⟨none, rfl, of_decide_eq_false hno⟩
          · exact ⟨some (F[k]'hk).data, k, hk, rfl, hkn, rfl⟩
        have HQO := hid hob
        clear hob
        go_wp2_with fail
        refine (read_step HD2.out HAG.out name HNAME.out ob ?r1).mono ?_
        case r1 =>
          cases ob with
          | none => exact HQO.out.2
          | some d => obtain ⟨k, hk, -, h1, h2⟩ := HQO.out; exact ⟨F[k]'hk, List.getElem_mem hk, h1, h2⟩
        rintro e w3 ⟨gv, rfl, hgv, hL3⟩
        obtain ⟨ok, hok⟩ : ∃ ok, ok = ob.isSome := ⟨_, rfl⟩
        obtain ⟨L, hL⟩ : ∃ L, L = (ob.getD []).length := ⟨_, rfl⟩
        have HGB : Hid (IsBytes w3 gv (ob.getD [])) := hid (owned_bytes hgv).all
        obtain ⟨ga, gc, rfl, hgc, hgA⟩ : ∃ a c, gv = .slice a L c ∧ L ≤ 9223372036854775807 ∧ ∀ g, a = some g → ∃ G, g = ⟨G, 0, none⟩ ∧ w2.heap.size ≤ G ∧ RowObj w3 G L := by
          rw [← hL] at hgv
          rcases hgv.2 with ⟨rfl, h0⟩ | ⟨g, cap, cur, rfl, hb, hg, h1, h2, h3, h4⟩
          · exact ⟨none, 0, by rw [h0], by omega, fun g h => by cases h⟩
          · refine ⟨_, cap, rfl, by unfold maxLen at h2; omega, fun g' h => ?_⟩
            cases h
            exact ⟨g, rfl, hb, cur, _, hg, by omega⟩
        have HOK := hid hok; have HLE := hid hL; have HGC := hid hgc; have HGA := hid hgA; have HL3 := hid hL3
        have HGN : Hid (ga = none → L = 0) := hid (by
          intro h
          obtain ⟨a', c', e', h1, h2, h3, -⟩ := HGB.out
          simp only [Value.slice.injEq] at e'
          obtain ⟨rfl, e2, rfl⟩ := e'
          have := h3 h
          omega)
        rw [← hok]
        clear hok hL hgc hgA hL3 hgv o2 hOl
        go_upto_region 40 with (fail)
        have HOF3 := hid (HOF2.out.later HL3.out)
        obtain ⟨R7, hR7⟩ : ∃ RR_ : (Nat → Value) → World → Prop, RR_ = (fun us wy => us 162 = .bool false ∧ Later w3 wy) := ⟨_, rfl⟩
        have HR7 := hid hR7; clear hR7
        refine wp_cut_frame' [false, false, false, false, false, false, false, false, false, false, false, false, false, false, false, false, false, false, false, false, false, false, false, false, false, false, false, false, false, false, false, false, false, false, false, false, false, false, false, false, false, false, false, false, false, false, false, false, false, false, false, false, false, false, false, false, false, false, false, false, false, false, false, false, false, false, false, false, false, false, false, false, false, false, false, false, false, false, false, false, false, false, false, false, false, false, false, false, false, false, false, false, false, false, false, false, false, false, false, false, false, false, false, false, false, false, false, false, false, false, false, false, false, false, false, false, false, false, false, false, false, false, false, false, false, false, false, false, false, false, false, false, false, false, false, false, true, true, true, true, true, true, true, true, true, true, true, true, true, true, true, true, true, true, true, true, true, true, true, true, true, true, true] R7 _ HR7.out ?_ ?_
        · cases hobc : ob with
          | none =>
            subst hobc
            obtain ⟨rfl, -⟩ := HQO.out
            obtain rfl : ok = false := HOK.out
            obtain rfl : L = 0 := HLE.out
            refine wp_region_lex (by kernel_rfl) (by kernel_rfl) Later Later.refl Later.trans (fun _ => none) (fun _ _ _ _ _ h => by cases h) ?_
            simp only [numbered, Nat.reduceAdd]
            refine LexS.out ?_
            iterate 27
              first
              | (refine LexS.skip rfl ?_; simp only [Act.put, List.setIfInBounds_toArray, List.set])
              | (refine LexS.one' rfl rfl ?_
                 apply Exists.intro
                 refine ⟨fun w hR hF => ?_, ?_⟩
                 · have hP := hR
                   repeat (first | replace hP := Later.of_drew hP | replace hP := Later.of_drewN hP | replace hP := Later.of_alloc hP)
                   have hcs := hR.cells
                   clear hR hF hP
                   go_simp
                   first | done | rfl
                 simp only [Act.put, List.setIfInBounds_toArray, List.set])
            refine LexS.nil ?_
            intro w4 hR4 hF9
            clear hF9
            repeat (first | replace hR4 := Later.of_drew hR4 | replace hR4 := Later.of_drewN hR4 | replace hR4 := Later.of_alloc hR4)
            go_wp2_with fail
            refine Meet.mk' HR7.out rfl ?_
            exact ⟨rfl, hR4⟩
          | some d =>
            subst hobc
            obtain ⟨k, hk, rfl, hkn, hkd⟩ := HQO.out
            obtain rfl : ok = true := HOK.out
            obtain ⟨g, rfl, -, p1, p2, p3, -⟩ := HOF3.out.at hk
            obtain ⟨y, hy⟩ : ∃ y, y = F[k]'hk := ⟨_, rfl⟩
            rw [← hy] at hkd p2
            have hlow := (HAG.out y (by rw [hy]; exact List.getElem_mem hk)).low
            rw [hkd] at hlow
            have HYB : Hid (IsBytes w3 y.dv d) := hid ((((hlow.bytes_kept HD.out.keep0 fun b h => h).bytes_later HL2.out).bytes_later HL3.out).all)
            have hkk : (0 : Int) ≤ k := by omega
            obtain ⟨ya, yc, hydv, -⟩ := hlow
            rw [hydv] at p2 HYB
            generalize d.length = yl at hydv p2 HYB
            clear hydv hy hkd hkn p1 p3
            have hgl := cell_lt p2
            refine wp_region_lex (by kernel_rfl) (by kernel_rfl) Later Later.refl Later.trans (fun _ => none) (fun _ _ _ _ _ h => by cases h) ?_
            simp only [numbered, Nat.reduceAdd]
            refine LexS.out ?_
            iterate 8
              first
              | (refine LexS.skip rfl ?_; simp only [Act.put, List.setIfInBounds_toArray, List.set])
              | (refine LexS.one' rfl rfl ?_
                 apply Exists.intro
                 refine ⟨fun w hR hF => ?_, ?_⟩
                 · have hP := hR
                   repeat (first | replace hP := Later.of_drew hP | replace hP := Later.of_drewN hP | replace hP := Later.of_alloc hP)
                   have hcs := hR.cells
                   have zp2 := hP.cell p2
                   clear hR hF hP
                   go_simp
                   first | done | rfl
                 simp only [Act.put, List.setIfInBounds_toArray, List.set])
            iterate 7
              first
              | (refine LexS.skip rfl ?_; simp only [Act.put, List.setIfInBounds_toArray, List.set])
              | (refine LexS.one' rfl rfl ?_
                 apply Exists.intro
                 refine ⟨fun w hR hF => ?_, ?_⟩
                 · have hP := hR
                   repeat (first | replace hP := Later.of_drew hP | replace hP := Later.of_drewN hP | replace hP := Later.of_alloc hP)
                   have hcs := hR.cells
                   have zp2 := hP.cell p2
                   have zr0 := (HGB.out.bytes_later hP).string Tryd.underlying45 Tryd.underlying5 Tryd.underlying9
                   have zr1 := (HYB.out.bytes_later hP).string Tryd.underlying45 Tryd.underlying5 Tryd.underlying9
                   clear hR hF hP
                   go_simp
                   first | done | rfl
                 simp only [Act.put, List.setIfInBounds_toArray, List.set])
            iterate 12
              first
              | (refine LexS.skip rfl ?_; simp only [Act.put, List.setIfInBounds_toArray, List.set])
              | (refine LexS.one' rfl rfl ?_
                 apply Exists.intro
                 refine ⟨fun w hR hF => ?_, ?_⟩
                 · have hP := hR
                   repeat (first | replace hP := Later.of_drew hP | replace hP := Later.of_drewN hP | replace hP := Later.of_alloc hP)
                   have hcs := hR.cells
                   have zp2 := hP.cell p2
                   have zr0 := str_eq (rfl : d = d)
                   clear hR hF hP
                   go_simp
                   first | done | rfl
                 simp only [Act.put, List.setIfInBounds_toArray, List.set])
            refine LexS.nil ?_
            intro w4 hR4 hF9
            clear hF9
            repeat (first | replace hR4 := Later.of_drew hR4 | replace hR4 := Later.of_drewN hR4 | replace hR4 := Later.of_alloc hR4)
            go_wp2_with fail
            refine Meet.mk' HR7.out rfl ?_
            exact ⟨rfl, hR4⟩
        intro us7 w4 hrel
        obtain ⟨h162, hL4⟩ := hrel
        simp only [frameOf, Nat.reduceAdd, h162]
        have Hh162 := hid h162; clear h162
        have HL4 := hid hL4
        clear hL4
        go_wp2_with fail
        obtain ⟨R4, hR4⟩ : ∃ RR_ : (Nat → Value) → World → Prop, RR_ = (fun us wz => ∃ m : Nat, us 15 = .int .i64 m ∧ m ≤ L ∧ (∀ G, ga = some ⟨G, 0, none⟩ → RowObj wz G L) ∧ Keeps (fun b => b < w2.heap.size) w2 wz) := ⟨_, rfl⟩
        obtain ⟨mu4, hmu4⟩ : ∃ mu : (Nat → Value) → World → Nat, mu = (fun us _ => L - (intOf (us 15)).toNat) := ⟨_, rfl⟩
        have HR4 := hid hR4; have Hmu4 := hid hmu4; clear hR4 hmu4
        refine wp_loop_frame' [false, false, false, false, false, false, false, false, false, false, false, false, false, false, false, true, false, false, false, false, false, false, false, false, false, false, false, false, false, false, false, false, false, false, false, false, false, false, false, false, false, false, false, false, false, false, false, false, false, false, false, false, false, false, false, false, false, false, false, false, false, false, false, false, false, false, false, false, false, false, false, false, false, false, false, false, false, false, false, false, false, false, false, false, false, false, false, false, false, false, false, false, false, false, false, false, false, false, false, false, false, false, false, false, false, false, false, false, false, false, false, false, false, false, false, false, false, false, false, false, false, false, false, false, false, false, false, false, false, false, false, false, false, false, false, false, false, false, false, false, false, false, false, false, false, false, false, false, false, false, false, false, false, false, false, false, false, false, false, false, false, false, false, true, true, true, true, true, true, true, true, true] R4 _ mu4 HR4.out ?_ ?_
        · refine ⟨0, rfl, Nat.zero_le _, fun G hG => ?_, (Later.trans _ _ _ HL3.out HL4.out).keeps _⟩
          obtain ⟨G', e', -, h⟩ := HGA.out _ hG
          cases e'
          exact h.later HL4.out
        intro us4 wz hrel
        obtain ⟨m, h15, hm, hro, hkz⟩ := hrel
        simp only [frameOf, Nat.reduceAdd, h15]
        have Hh15 := hid h15; clear h15
        have HM := hid hm; have HRO := hid hro; have HKZ := hid hkz
        clear hm hro hkz
        by_cases hml : m < L
        · have HML := hid hml
          obtain ⟨gad, rfl⟩ : ∃ gad, ga = some gad := by
            cases ga with
            | none => have := HGN.out rfl; omega
            | some gad => exact ⟨gad, rfl⟩
          obtain ⟨G, rfl, hGw, -⟩ := HGA.out _ rfl
          have HRG := hid (HRO.out G rfl)
          have HGW := hid hGw
          obtain ⟨z, hz⟩ := HRG.out.cell hml
          have hzf := HRG.out.free m
          have hzl := cell_lt hz
          have HWM : Hid (wrap64 ((m : Int) + 1) = ((m + 1 : Nat) : Int)) := hid (by have := HGC.out; unfold wrap64; omega)
          clear hGw
          go_wp2_with fail
          try simp only [HWM.out]
          refine Round.mk' HR4.out Hmu4.out rfl ?_ ?_
          · refine ⟨m + 1, rfl, HML.out, fun G' hG' => ?_, HKZ.out.setCell (p := ⟨G, m, none⟩) (.inl fun h => by have := HGW.out; simp only at h; omega) _⟩
            cases hG'
            exact HRG.out.set _ _
          · rw [Hh15.out]; have := HML.out; simp [intOf, slots]; omega
        · have HLZ := hid (later_keep (Later.refl w2) HKZ.out (Nat.le_refl _))
          go_wp2_with fail
          refine Meet.mk' HR5.out rfl ?_
          exact ⟨_, F, rfl, by have := HFI.out; omega, ((HD2.out.renew fun b hb _ => hb.1).later HLZ.out).mono (by omega), HOF2.out.later HLZ.out, HAG.out⟩
      have o2 := cell_obj (i := 2) HOB.out (v := .string (strB name)) rfl
      have hOl := cell_lt o2
      go_wp2_with fail
      refine (remove_step HD2.out name HNAME.out).mono ?_
      rintro e w3 ⟨rfl, hd3, ho3⟩
      have HD3 := hid hd3
      have hk3 := ho3 (fun b => ¬ (some b ≠ (Value.slice ua F.length uc).ownBlock ∧ b < wx.heap.size)) fun b h _ => h
      have HOF3 : Hid (OwnF w.heap.size w3 (.slice ua F.length uc) F) := hid (HOF2.out.keep hk3 (fun g hg h => h.1 hg.symm))
      clear hd3 ho3 hk3 o2 hOl
      rcases HQ.out with ⟨rfl, hno⟩ | ⟨k, hk, rfl, hkn, hyes⟩
      · rw [hno]
        have HFG : Hid ((F.filter fun y => otherB name y.name) = F) := hid (filter_gone (of_decide_eq_false hno))
        clear hno
        go_wp2_with fail
        refine Meet.mk' HR5.out rfl ?_
        refine ⟨_, F, rfl, by have := HFI.out; omega, ?_, HOF3.out, HAG.out⟩
        have h := HD3.out
        rw [HFG.out] at h
        exact (h.renew fun b hb _ => hb.1).mono (by omega)
      · rw [hyes]
        have HFG : Hid (F.take k ++ F.drop (k + 1) = F.filter fun y => otherB name y.name) := hid (by rw [← hkn]; exact without_filter hk HD.out.nodup)
        have HKF := hid hk
        have hkk : (0 : Int) ≤ k := by omega
        clear hkn hyes hk
        go_wp2_with fail
        refine (without_any HOF3.out HAG.out.one (by have := HFI.out; have := HLT.out; have := HLEN.out; omega) HKF.out).mono ?_
        rintro e w4 ⟨v4, rfl, ho4, hL4⟩
        rw [HFG.out] at ho4
        have HO4 := hid (ownsRow_base ho4 HD3.out.keep0.size)
        have HOB4 : Hid (∀ g, v4.ownBlock = some g → w3.heap.size ≤ g) := hid fun g hg => (ownb ho4 g hg).1
        have HL4 := hid hL4
        clear ho4 hL4
        go_wp2_with fail
        refine Meet.mk' HR5.out rfl ?_
        refine ⟨v4, _, rfl, Nat.le_trans (List.length_filter_le _ _) (by have := HFI.out; omega), ((HD3.out.renew fun b hb hlt e => ?_).later HL4.out).mono (by omega), HO4.out, HAG.out.filter _⟩
        have := HOB4.out b e.symm
        omega
    intro us5 wy hrel
    obtain ⟨u2, F2, h4n, hFi2, hd2, hof2, hag2⟩ := hrel
    simp only [frameOf, Nat.reduceAdd, h4n]
    have Hh4n := hid h4n; clear h4n
    have HFI2 := hid hFi2; have HD2 := hid hd2; have HOF2 := hid hof2; have HAG2 := hid hag2
    obtain ⟨va, vc, rfl⟩ := hof2.slice
    have HC2 := hid hof2.len
    clear hFi2 hd2 hof2 hag2
    go_wp2_with fail
    obtain ⟨R6, hR6⟩ : ∃ RR_ : (Nat → Value) → World → Prop, RR_ = (fun us wz => ∃ m : Nat, us 18 = .int .i64 m ∧ us 17 = .int .i64 (cnt m F2 : Nat) ∧ m ≤ F2.length ∧ wz = wy) := ⟨_, rfl⟩
    obtain ⟨mu6, hmu6⟩ : ∃ mu : (Nat → Value) → World → Nat, mu = (fun us _ => F2.length - (intOf (us 18)).toNat) := ⟨_, rfl⟩
    have HR6 := hid hR6; have Hmu6 := hid hmu6; clear hR6 hmu6
    refine wp_loop_frame' [false, false, false, false, false, false, false, false, false, false, false, false, false, false, false, false, false, true, true, false, false, false, false, false, false, false, false, false, false, false, false, false, false, false, false, false, false, false, false, false, false, false, false, false, false, false, false, false, false, false, false, false, false, false, false, false, false, false, false, false, false, false, false, false, false, false, false, false, false, false, false, false, false, false, false, false, false, false, false, false, false, false, false, false, false, false, false, false, false, false, false, false, false, false, false, false, false, false, false, false, false, false, false, false, false, false, false, false, false, false, false, false, false, false, false, false, false, false, false, false, false, false, false, false, false, false, false, false, false, false, false, false, false, false, false, false, false, false, false, false, false, false, false, false, false, false, false, false, false, false, false, false, false, false, false, false, false, false, false, false, false, false, false, false, false, false, false, false, false, false, false, false, true, true, true, true, true, true, true, true, true, true, true, true, true] R6 _ mu6 HR6.out ?_ ?_
    · exact ⟨0, rfl, rfl, Nat.zero_le _, rfl⟩
    intro us6 wz hrel
    obtain ⟨m, h18, h17, hm, rfl⟩ := hrel
    simp only [frameOf, Nat.reduceAdd, h18, h17]
    have Hh18 := hid h18; clear h18
    have Hh17 := hid h17; clear h17
    have HM := hid hm
    clear hm
    by_cases hml : m < F2.length
    · have HML := hid hml
      obtain ⟨g, rfl, -, -, -, p3, -⟩ := HOF2.out.at hml
      have hg := cell_lt p3
      have HCS := hid (cnt_succ hml)
      have HWM : Hid (wrap64 ((m : Int) + 1) = ((m + 1 : Nat) : Int)) := hid (by have h1 := HC2.out.2.1; have h2 := HC2.out.2.2.1; unfold maxLen at h2; unfold wrap64; omega)
      have HWC : Hid (wrap64 ((cnt m F2 : Nat) + 1 : Int) = ((cnt m F2 + 1 : Nat) : Int)) := hid (by have h3 := cnt_le m F2; have h1 := HC2.out.2.1; have h2 := HC2.out.2.2.1; unfold maxLen at h2; unfold wrap64; omega)
      cases hlo : (F2[m]'hml).loose with
      | true =>
        rw [hlo] at p3
        have HC1 : Hid (cnt (m + 1) F2 = cnt m F2 + 1) := hid (by rw [HCS.out, hlo]; rfl)
        clear hlo
        go_wp2_with fail
        try simp only [HWM.out, HWC.out]
        refine Round.mk' HR6.out Hmu6.out rfl ?_ ?_
        · exact ⟨m + 1, rfl, by rw [HC1.out]; rfl, HML.out, rfl⟩
        · rw [Hh18.out]; have := HML.out; simp [intOf, slots]; omega
      | false =>
        rw [hlo] at p3
        have HC1 : Hid (cnt (m + 1) F2 = cnt m F2) := hid (by rw [HCS.out, hlo]; rfl)
        clear hlo
        go_wp2_with fail
        try simp only [HWM.out]
        refine Round.mk' HR6.out Hmu6.out rfl ?_ ?_
        · exact ⟨m + 1, rfl, by rw [HC1.out]; rfl, HML.out, rfl⟩
        · rw [Hh18.out]; have := HML.out; simp [intOf, slots]; omega
    · have hme : m = F2.length := by have := HM.out; omega
      have HQ17 : Hid (cnt m F2 = (looseF F2).length) := hid (by rw [hme, cnt_all])
      rw [HQ17.out] at Hh17 ⊢
      clear hme HQ17
      obtain ⟨K, hK⟩ : ∃ K, K = (looseF F2).length := ⟨_, rfl⟩
      have HKL := hid hK
      rw [← hK] at Hh17 ⊢
      clear hK
      go_wp2_with fail
      refine (loose_step HD2.out).mono ?_
      rintro e w4 ⟨rfl, rfl⟩
      rw [← HKL.out]
      go_wp2_with fail
      refine (names_step HD2.out (by have := HFI2.out; have := HLT.out; have := HLEN.out; omega)).mono ?_
      rintro e w5 ⟨gv, rfl, hgv, hL5⟩
      have HGV := hid hgv
      have HL5 := hid hL5
      clear hgv hL5
      go_wp2_with fail
      refine (names_any HGV.out (HOF2.out.later HL5.out) ?a1 ?a2 (sortN_up HD2.out.nodup)).mono ?_
      case a1 => unfold sortN; rw [List.length_mergeSort]; unfold namesF; rw [List.length_map]
      case a2 => intro x hx; exact mem_names.1 ((List.mergeSort_perm _ _).mem_iff.1 hx)
      rintro e w6 ⟨rfl, hL6⟩
      have HL6 := hid (Later.trans _ _ _ HL5.out hL6)
      have HWI : Hid (wrap64 ((i : Int) + 1) = ((i + 1 : Nat) : Int)) := hid (by have := HLT.out; have := HLEN.out; unfold wrap64; omega)
      clear hL6
      go_wp2_with fail
      try simp only [HWI.out]
      refine Round.mk' HR1.out Hmu1.out rfl ?_ ?_
      · exact ⟨i + 1, _, F2, rfl, rfl, HLT.out, HFI2.out, HD2.out.later HL6.out, HOF2.out.later HL6.out, HAG2.out⟩
      · rw [Hh5.out]; have := HLT.out; simp [intOf, slots]; omega
  · have HLW := hid (Keeps.later (HD.out.keep0.mono (S' := fun _ => True) fun b hb _ => hb))
    go_wp2_with fail
    go_ret
    exact ⟨rfl, HLW.out⟩
end Go.Proofs.YtcmpjdnbjhkhdaaDoor
