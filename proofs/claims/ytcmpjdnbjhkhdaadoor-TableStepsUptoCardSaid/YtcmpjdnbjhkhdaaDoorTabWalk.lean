/-
  PROVED HERE: streamwrightlaw13.TableSteps walked: it returns true, where what it reads is of a bounded bulk.
-/
import Derived.Test.YtcmpjdnbjhkhdaaDoorGTabCalls
import Derived.Test.YtcmpjdnbjhkhdaaDoorBlockCut
namespace Go.Proofs.YtcmpjdnbjhkhdaaDoor
set_option linter.unusedSimpArgs false
set_option linter.unusedVariables false
open Go.RowKit

set_option maxRecDepth 100000 in
set_option maxHeartbeats 4000000 in
theorem table_walk (v : Value) (l : List OpT) (w : World) (hv : IsOpsT w v l) (hlen : l.length ≤ 1048576) (hsum : sumO l ≤ 1048576) (hgd : ∀ x ∈ l, GoodH w x.he) (hg : Laid w) : Calls Tryd.prog 9 #[v] w (BoolTo w true) := by
  obtain ⟨p, c, rfl, hlc, hcm, -, hel⟩ := hv
  have HLEN := hid hlen; have HGD := hid hgd; have HG := hid hg; have HEL := hid hel; have HSUM := hid hsum
  have HGL : Hid (0 < w.heap.size) := hid (cell_lt hg)
  clear hlen hgd hg hel hlc hcm hsum
  go_enter Tryd.func9, Tryd.ntmps9
  go_wp2_with fail
  refine (new_tab w).mono ?_
  rintro e w1 ⟨A, M, rfl, hd, hL1⟩
  have HD1 := hid hd
  have HL1 := hid hL1
  clear hd hL1
  go_wp2_with fail
  obtain ⟨R1, hR1⟩ : ∃ RR_ : (Nat → Value) → World → Prop, RR_ = (fun us wx => ∃ (i : Nat) (u ca : Value) (P C : List HE), us 6 = .int .i64 i ∧ us 4 = u ∧ us 5 = ca ∧ i ≤ l.length ∧ AtTab w l A M i u ca P C wx) := ⟨_, rfl⟩
  obtain ⟨mu1, hmu1⟩ : ∃ mu : (Nat → Value) → World → Nat, mu = (fun us _ => l.length - (intOf (us 6)).toNat) := ⟨_, rfl⟩
  have HR1 := hid hR1; have Hmu1 := hid hmu1; clear hR1 hmu1
  refine wp_loop_frame' [false, false, true, false, true, true, true, true, true, true, true, true, true, true, true, true, true, true, true, true, true, true, true, true, true, true, false, false, false, true, true, true, true, true, true, true, true, true, true, true, true, true, true, true, true, true, true, true, true, true, true, true, true, true, true, true, true, true, true, true, true, true, true, true, true, true, true, true, true, true, true, true, true, true, true, true, true, true, true, true, true, true, true, true, true, true, true, true, true, true, true, true, true, true, true, true, true, true, true, true, true, true, true, true, true, true, true, true, true, true, true, true, true, true, true, true, true, true, true, true, true, true, true, true, true, true, true, true, true, true, true, true, true, true, true, true, true, true, true, true, true, true, true, true, true, true, true, true, true, true, true, true, true, true, true, true, true, true, true, true, true, true, true, true, true, true, true, true, true, true, true, true, true, true, true, true, true, true, true, true, true, true, true, true, true, true, true, true, true, true, true, true, true, true, true, true, true, true, true, true, true, true, true, true, true, true, true] R1 _ mu1 HR1.out ?_ ?_
  · exact ⟨0, _, _, [], [], rfl, rfl, rfl, Nat.zero_le _, ⟨Nat.le_refl _, Nat.zero_le _, HD1.out.keep (S := fun _ => True) (Keeps.refl _ _) (fun b hb _ => ⟨trivial, hb, (fun e => by cases e), fun e => by cases e⟩) (fun b hb => hb.1), OwnH.nil _ _, OwnH.nil _ _, (fun b hb => by cases hb), (fun q hq => by cases hq), (fun q hq => by cases hq), HL1.out.keeps _⟩⟩
  clear HD1 HL1
  intro us1 wx hrel
  obtain ⟨i, u, ca, P, C, h6, h4, h5, hi, hat⟩ := hrel
  simp only [frameOf, Nat.reduceAdd, h6, h4, h5]
  have Hh6 := hid h6; clear h6
  have Hh4 := hid h4; clear h4
  have Hh5 := hid h5; clear h5
  have HI := hid hi; have HAT := hid hat
  obtain ⟨ua, uc, rfl⟩ := hat.ownU.slice
  obtain ⟨xa, xc, rfl⟩ := hat.ownC.slice
  obtain ⟨PL, hPL⟩ : ∃ PL, PL = P.length := ⟨_, rfl⟩
  obtain ⟨CL, hCL⟩ : ∃ CL, CL = C.length := ⟨_, rfl⟩
  have HPL := hid hPL; have HCL := hid hCL
  rw [← hPL, ← hCL] at HAT
  rw [← hPL] at Hh4
  rw [← hCL] at Hh5
  rw [← hPL, ← hCL]
  clear hi hat hPL hCL
  by_cases hlt : i < l.length
  · have HLT := hid hlt
    have HFEW := hid (HAT.out.few HI.out HLEN.out HSUM.out)
    obtain ⟨b, o, rfl, -, q0, q1, q2, q3, q4⟩ := HEL.out i hlt
    have HGX := hid (HGD.out _ (List.getElem_mem hlt))
    have HSX := hid (sumO_succ hlt)
    have HRL : Hid ((l[i]'hlt).he.rows.length ≤ 1048576) := hid (by have h1 := sumO_succ hlt; have h2 := sumO_take l (i + 1); have := HSUM.out; omega)
    have hbw : b < w.heap.size := cell_lt q0
    replace q0 := HAT.out.keep0.cell hbw q0
    replace q1 := HAT.out.keep0.cell (p := ⟨b, o + i * 5 + 1, none⟩) hbw q1
    replace q2 := HAT.out.keep0.cell (p := ⟨b, o + i * 5 + 2, none⟩) hbw q2
    replace q3 := HAT.out.keep0.cell (p := ⟨b, o + i * 5 + 3, none⟩) hbw q3
    replace q4 := HAT.out.keep0.cell (p := ⟨b, o + i * 5 + 4, none⟩) hbw q4
    generalize l[i] = x at q0 q1 q2 q3 q4 HGX HSX HRL
    obtain ⟨xk, q⟩ := x
    simp only at q0 q1 q2 q3 q4 HGX HSX HRL
    obtain ⟨da, dc, hrv⟩ := HGX.out.slice
    obtain ⟨D, hD⟩ : ∃ D, D = q.rows.length := ⟨_, rfl⟩
    have HDD := hid hD
    have HTX : Hid (q.tx.v = .agg #[.int .i64 q.tx.mark, .string (strB q.tx.sink), .int .i64 q.tx.task]) := hid rfl
    rw [← hD] at hrv
    have HRV := hid hrv
    rw [hrv] at q4
    obtain ⟨tk, htk⟩ : ∃ tk, tk = q.tx.mark := ⟨_, rfl⟩
    obtain ⟨ts, hts⟩ : ∃ ts, ts = q.tx.sink := ⟨_, rfl⟩
    obtain ⟨tt, htt⟩ : ∃ tt, tt = q.tx.task := ⟨_, rfl⟩
    have HTK := hid htk; have HTS := hid hts; have HTT := hid htt
    have HQT : Hid (q.tx = ⟨tk, ts, tt⟩) := hid (tx_eq htk.symm hts.symm htt.symm)
    rw [← htk] at q1
    rw [← hts] at q2
    rw [← htt] at q3
    have hbx := cell_lt q0
    clear hbw hD hrv htk hts htt HTX
    go_upto_region 10 with (fail)
    obtain ⟨w2, hw2⟩ : ∃ w2, w2 = wx.alloc (.cells #[.int .i64 xk, .int .i64 tk, .string (strB ts), .int .i64 tt, .slice da D dc] 75 (0, 0)) := ⟨_, rfl⟩
    obtain ⟨O, hO⟩ : ∃ O, O = wx.heap.size := ⟨_, rfl⟩
    have HOB2 : Hid (w2.heap[O]? = some (.cells #[.int .i64 xk, .int .i64 tk, .string (strB ts), .int .i64 tt, .slice da D dc] 75 (0, 0))) := hid (by rw [hw2, hO]; exact obj_new _ _)
    have HL2 : Hid (Later wx w2) := hid (by rw [hw2]; exact Later.alloc _ _)
    have HOS : Hid (O = wx.heap.size) := hid hO
    rw [← hw2, ← hO]
    clear hw2 hO q0 q1 q2 q3 q4 hbx
    have o0 := cell_obj (i := 0) HOB2.out (v := .int .i64 xk) rfl
    have o1 := cell_obj (i := 1) HOB2.out (v := .int .i64 tk) rfl
    have o2 := cell_obj (i := 2) HOB2.out (v := .string (strB ts)) rfl
    have o3 := cell_obj (i := 3) HOB2.out (v := .int .i64 tt) rfl
    have hOl := cell_lt o0
    go_wp2_with fail
    refine (find_helds (HAT.out.ownU.later HL2.out) ⟨tk, ts, tt⟩).mono ?_
    intro e w3 hf
    obtain ⟨hL3, fnd, k, rfl, hno, hyes⟩ := hfound hf
    have HNO := hid hno; have HYES := hid hyes
    have HL3 := hid (Later.trans _ _ _ HL2.out hL3)
    have HOB := hid (hL3.obj HOB2.out)
    clear hf hno hyes hL3 o0 o1 o2 o3 hOl HOB2 HL2
    have o0 := cell_obj (i := 0) HOB.out (v := .int .i64 xk) rfl
    have hOl := cell_lt o0
    go_upto_if 84 with (fail)
    clear o0 hOl
    obtain ⟨R5, hR5⟩ : ∃ RR_ : (Nat → Value) → World → Prop, RR_ = (fun us wy => ∃ (u2 ca2 : Value) (P2 C2 : List HE), us 4 = u2 ∧ us 5 = ca2 ∧ AtTab w l A M (i + 1) u2 ca2 P2 C2 wy) := ⟨_, rfl⟩
    have HR5 := hid hR5; clear hR5
    refine wp_block_frame' [false, false, false, false, true, true, false, false, false, true, true, true, true, true, true, true, true, true, true, true, true, true, true, false, false, false, false, false, false, false, false, false, false, false, false, false, false, false, false, false, false, false, false, false, false, true, true, true, true, true, true, true, true, true, true, true, true, true, true, true, true, true, true, true, true, true, true, true, true, true, true, true, true, true, true, true, true, true, true, true, true, true, true, true, true, true, true, true, true, true, true, true, true, true, true, true, true, true, true, true, true, true, true, true, true, true, true, true, true, true, true, true, true, true, true, true, true, true, true, true, true, true, true, true, true, true, true, true, true, true, true, true, true, true, true, true, true, true, true, true, true, true, true, true, true, true, true, true, true, true, true, true, true, true, true, true, true, true, true, true, true, true, true, true, true, true, true, true, true, true, true, true, true, true, true, true, true, true, true, true, true, true, true, true, true, true, true, true, true, true, true, true, true, true, true, true, true] R5 _ HR5.out ?_ ?_
    · have HOLD := hid (HAT.out.old HL3.out)
      have HU3 : Hid (OwnH w.heap.size w3 (.slice ua PL uc) P) := hid (HAT.out.ownU.later HL3.out)
      have HC3 : Hid (OwnH w.heap.size w3 (.slice xa CL xc) C) := hid (HAT.out.ownC.later HL3.out)
      have HNU : Hid (∀ g, (Value.slice ua PL uc).ownBlock = some g → ¬ (TabN w (.slice ua PL uc) (.slice xa CL xc) g ∧ g < wx.heap.size)) := hid fun g hg e => e.1.2.1 hg.symm
      have HNC : Hid (∀ g, (Value.slice xa CL xc).ownBlock = some g → ¬ (TabN w (.slice ua PL uc) (.slice xa CL xc) g ∧ g < wx.heap.size)) := hid fun g hg e => e.1.2.2 hg.symm
      by_cases hk0 : xk = 0
      · subst hk0
        have o4 := cell_obj (i := 4) HOB.out (v := .slice da D dc) rfl
        have hOl := cell_lt o4
        have HRW : Hid (RowsIn (fun b => b < w.heap.size) w3 (.slice da D dc) q.rows) := hid (by rw [← HRV.out]; exact ((HGX.out.rows HAT.out.keep0).rows_later HL3.out))
        have HWD := hid HGX.out.wide
        have HDB : Hid (D ≤ 1048576) := hid (by rw [HDD.out]; exact HRL.out)
        go_wp2_with fail
        clear o4 hOl
        obtain ⟨R3, hR3⟩ : ∃ RR_ : (Nat → Value) → World → Prop, RR_ = (fun us wy => ∃ (m : Nat) (xs : List RX) (a : Option Addr) (c : Nat), us 10 = .int .i64 m ∧ us 9 = .slice a m c ∧ m ≤ D ∧ xs.map (·.row) = q.rows.take m ∧ wy.ownsRow w3.heap.size 79 2 (.slice a m c) m (rxCells xs) ∧ AllR w3.heap.size wy xs ∧ Later w3 wy) := ⟨_, rfl⟩
        obtain ⟨mu3, hmu3⟩ : ∃ mu : (Nat → Value) → World → Nat, mu = (fun us _ => D - (intOf (us 10)).toNat) := ⟨_, rfl⟩
        have HR3 := hid hR3; have Hmu3 := hid hmu3; clear hR3 hmu3
        refine wp_loop_frame' [false, false, false, false, false, false, false, false, false, true, true, true, false, false, false, false, false, false, false, false, false, false, false, false, false, false, false, false, false, false, false, false, false, false, false, false, false, false, false, false, false, false, false, false, false, false, false, false, false, false, false, false, false, false, false, false, false, false, false, false, false, false, false, false, false, false, false, false, false, false, false, false, false, false, false, false, false, false, false, false, false, false, false, false, false, false, true, true, true, true, true, true, true, true, true, true, true, true, true, true, true, true, true] R3 _ mu3 HR3.out ?_ ?_
        · exact ⟨0, [], none, 0, rfl, rfl, Nat.zero_le _, rfl, ⟨rfl, .inl ⟨rfl, rfl⟩⟩, (fun x hx => by cases hx), Later.refl _⟩
        intro us3 wy hrel
        obtain ⟨m, xs, a, c', h10, h9, hm, hmx, how, hall, hLy⟩ := hrel
        simp only [frameOf, Nat.reduceAdd, h10, h9]
        have Hh10 := hid h10; clear h10
        have Hh9 := hid h9; clear h9
        have HM := hid hm; have HMX := hid hmx; have HOW := hid how; have HALL := hid hall; have HLY := hid hLy
        have HXN : Hid (xs.length = m) := hid (by have e := congrArg List.length hmx; rw [List.length_map, List.length_take, ← HDD.out] at e; omega)
        clear hm hmx how hall hLy
        have o4 := HLY.out.cell (cell_obj (i := 4) HOB.out (v := .slice da D dc) rfl)
        have hOl := cell_lt o4
        by_cases hml : m < D
        · have HML := hid hml
          obtain ⟨a', c2, e', hr1, hr2, hr3, hel⟩ := HRW.out
          simp only [Value.slice.injEq] at e'
          obtain ⟨rfl, e2, rfl⟩ := e'
          have hmr : m < q.rows.length := by rw [← e2]; exact hml
          obtain ⟨rb, ro, rfl, -, p1, v1, p2, hv1⟩ := hel m hmr
          have HTK1 : Hid (q.rows.take (m + 1) = q.rows.take m ++ [q.rows[m]'hmr]) := hid (List.take_succ_eq_append_getElem hmr)
          have hvw := HWD.out _ (List.getElem_mem hmr)
          replace p1 := HLY.out.cell p1
          replace p2 := HLY.out.cell p2
          replace hv1 : IsVals wy v1 (q.rows[m]'hmr).vals := (SliceOf.later hv1 HLY.out).vals_mono fun _ _ => trivial
          generalize q.rows[m] = r at p1 p2 hv1 HTK1 hvw
          obtain ⟨tm, vs⟩ := r
          simp only at p1 hv1 hvw
          have HV1 := hid hv1; have HVW := hid hvw
          obtain ⟨av, cv, rfl, -⟩ := hv1
          have HWM : Hid (wrap64 ((m : Int) + 1) = ((m + 1 : Nat) : Int)) := hid (by have := HML.out; have := HDB.out; unfold wrap64; omega)
          have hrl := cell_lt p1
          have hm0 : (0 : Int) ≤ m := by omega
          clear hel hr1 hr2 hr3 e2 hvw hmr
          go_wp2_with fail
          refine (copy_row tm vs _ _ HV1.out (by have := HVW.out; omega)).mono ?_
          rintro e w4 ⟨v4, rfl, ho4, hL4⟩
          obtain ⟨a4, c4, hv4⟩ := ownsRow_slice ho4
          have HO4 := hid ho4; have HL4 := hid (Later.trans _ _ _ HLY.out hL4)
          have HOW4 := hid (owns_at HOW.out hL4); have HALL4 := hid (HALL.out.later hL4)
          rw [hv4] at HO4 ⊢
          clear ho4 hL4 hv4 p1 p2 o4 hOl hrl
          obtain ⟨vl, hvl⟩ : ∃ vl, vl = vs.length := ⟨_, rfl⟩
          have HVL := hid hvl
          rw [← hvl] at HO4 ⊢
          clear hvl
          go_upto_region 30 with (fail)
          obtain ⟨w5, hw5⟩ : ∃ w5, w5 = w4.alloc (.cells #[.int .i64 tm, .slice a4 vl c4] 79 (0, 0)) := ⟨_, rfl⟩
          obtain ⟨X, hX⟩ : ∃ X, X = w4.heap.size := ⟨_, rfl⟩
          have hL5 : Later w4 w5 := by rw [hw5]; exact Later.alloc _ _
          have hX5 : w5.heap[X]? = some (.cells #[.int .i64 tm, .slice a4 vl c4] 79 (0, 0)) := by rw [hw5, hX]; exact obj_new _ _
          rw [← hw5, ← hX]
          have HL5 := hid (Later.trans _ _ _ HL4.out hL5)
          have HOW5 := hid (owns_at HOW4.out hL5); have HALL5 := hid (HALL4.out.later hL5); have HO5 := hid (owns_at HO4.out hL5)
          have x0 := cell_obj (i := 0) hX5 (v := .int .i64 tm) rfl
          have x1 := cell_obj (i := 1) hX5 (v := .slice a4 vl c4) rfl
          have hxl := cell_lt x0
          have HZ5 : Hid (w3.heap.size ≤ w5.heap.size) := hid HL5.out.size
          clear hw5 hX hL5 hX5
          go_wp2_with (at_builtin; go_loud (refine wpList_append_obj rfl _ _ 73 rfl 79 2 32 Tryd.underlying73 rowElem rfl (owns_at HOW5.out (Later.alloc _ _)) (news := [.int .i64 tm, .slice a4 vl c4]) rfl (obj_new _ _) rfl (row_ones ⟨⟨tm, vs⟩, .slice a4 vl c4⟩ ⟨_, _, _, rfl⟩) ?c1 ?c2 ?c3 ?_))
          case c1 => have := HML.out; have := HDB.out; omega
          case c2 => have := HML.out; have := HDB.out; unfold maxLen; omega
          case c3 => have := HZ5.out; first | omega | (rw [World.size_alloc]; omega)
          intro v6 w6 hA
          have HL6 := hid (hA.later (owns_at HOW5.out (Later.alloc _ _)) (Later.trans _ _ _ HL5.out (Later.alloc _ _)) (Nat.le_refl _))
          have HOW6 : Hid (w6.ownsRow w3.heap.size 79 2 v6 (m + 1) (rxCells (xs ++ [⟨⟨tm, vs⟩, .slice a4 vl c4⟩]))) := hid (by rw [rxCells_app]; exact hA.own)
          have hka := hA.keeps
          have hne : ∀ x ∈ xs, ∀ b, x.v.ownBlock = some b → some b ≠ (Value.slice a m c').ownBlock := fun x hx b hb e => own_apart HOW5.out (HALL5.out x hx) (by decide) b e.symm hb
          have HALL6 : Hid (AllR w3.heap.size w6 (xs ++ [⟨⟨tm, vs⟩, .slice a4 vl c4⟩])) := hid fun x hx => by
            rcases List.mem_append.1 hx with hx | hx
            · exact owns_keep (owns_at (HALL5.out x hx) (Later.alloc _ _)) hka (hne x hx)
            · obtain rfl := List.mem_singleton.1 hx
              have h2 : w5.ownsRow w3.heap.size 25 3 (.slice a4 vl c4) vs.length (valCells vs) := by rw [← HVL.out]; exact own_base HO5.out HLY.out.size
              exact owns_keep (owns_at h2 (Later.alloc _ _)) hka fun b hb e => own_apart HOW5.out h2 (by decide) b e.symm hb
          clear hA hka hne x0 x1 hxl
          obtain ⟨a6, c6, hv6⟩ := ownsRow_slice HOW6.out
          subst hv6
          go_wp2_with fail
          try simp only [HWM.out]
          refine Round.mk' HR3.out Hmu3.out rfl ?_ ?_
          · refine ⟨m + 1, xs ++ [⟨⟨tm, vs⟩, .slice a4 vl c4⟩], a6, c6, rfl, rfl, HML.out, ?_, HOW6.out, HALL6.out, HL6.out⟩
            rw [List.map_append, HMX.out, HTK1.out]; rfl
          · rw [Hh10.out]; have := HML.out; simp [intOf, slots]; omega
        · have hme : m = D := by have := HM.out; omega
          have HXR : Hid (xs.map (·.row) = q.rows) := hid (by rw [HMX.out, hme, HDD.out, List.take_length])
          subst hme
          have HWX : Hid (Later wx wy) := hid (Later.trans _ _ _ HL3.out HLY.out)
          have HXO : Hid (OwnR w3.heap.size wy (.slice a m c') xs) := hid (by have h := HOW.out; unfold OwnR; rw [HXN.out]; exact h)
          have HIR : Hid (IsRows wy (.slice a m c') q.rows) := hid (by rw [← HXR.out]; exact HXO.out.isRows fun x hx => (owned_vals (HALL.out x hx)).vals_mono fun _ _ => trivial)
          have hcall := prep_any (HAT.out.old HWX.out) HFEW.out q fnd (fun e => by obtain ⟨j, hj, -, hx⟩ := HYES.out e; exact ⟨_, List.getElem_mem hj, by rw [hx, HQT.out]⟩) (fun e => by rw [HQT.out]; exact (HNO.out e).2) (.slice a m c') HIR.out HRL.out HWD.out
          rw [HQT.out] at hcall
          have HCALL := hid hcall
          have o1 := HLY.out.cell (cell_obj (i := 1) HOB.out (v := .int .i64 tk) rfl)
          have o2 := HLY.out.cell (cell_obj (i := 2) HOB.out (v := .string (strB ts)) rfl)
          have o3 := HLY.out.cell (cell_obj (i := 3) HOB.out (v := .int .i64 tt) rfl)
          clear hcall
          go_wp2_with fail
          refine HCALL.out.mono ?_
          rintro e w4 ⟨rfl, h4, hk4⟩
          have H4 := hid h4; have HK4 := hid hk4
          clear h4 hk4 o1 o2 o3 o4 hOl
          obtain ⟨ec, hec⟩ : ∃ ec : Int, ec = if fnd = true then 6 else 0 := ⟨_, rfl⟩
          have HEC := hid hec
          rw [← hec]
          clear hec
          have HK04 : Hid (Keeps (fun b => b < w.heap.size) w w4) := hid ((HAT.out.keep0.trans (HWX.out.keeps _)).trans (HK4.out.mono fun b _ hb e => by have := e.1.1; omega))
          have HEV : Hid (∃ t u, errVal ec = .iface t u ∨ errVal ec = .nilIface) := hid (by unfold errVal; split; exact ⟨0, .nilIface, .inr rfl⟩; exact ⟨_, _, .inl rfl⟩)
          obtain ⟨ev, hev⟩ : ∃ ev, ev = errVal ec := ⟨_, rfl⟩
          have HEVE := hid hev
          rw [← hev]
          clear hev
          go_wp2_with fail
          rw [HEVE.out]
          refine (told_any ec _ (HK04.out.cell HGL.out HG.out)).mono ?_
          rintro e w5 ⟨rfl, hL5⟩
          have HL5 := hid hL5
          clear hL5
          have hz3 : w3.heap.size ≤ wy.heap.size := HLY.out.size
          have hzx : wx.heap.size ≤ w3.heap.size := HL3.out.size
          have hin : ∀ b, w3.heap.size ≤ b → ¬ (TabN w (.slice ua PL uc) (.slice xa CL xc) b ∧ b < wx.heap.size) := fun b hb e => by omega
          have HX6 : Hid (w5.ownsRow w3.heap.size 79 2 (.slice a m c') m (rxCells xs)) := hid (owns_at (owns_keep HOW.out HK4.out fun b hb => hin b (ownb HOW.out b hb).1) HL5.out)
          have HA6 : Hid (AllR w3.heap.size w5 xs) := hid fun x hx => owns_at (owns_keep (HALL.out x hx) HK4.out fun b hb => hin b (ownb (HALL.out x hx) b hb).1) HL5.out
          have HAB : Hid (∀ x ∈ xs, ∀ b, x.v.ownBlock = some b → b < wy.heap.size) := hid fun x hx b hb => (ownb (HALL.out x hx) b hb).2
          have HGB : Hid (∀ b, (Value.slice a m c').ownBlock = some b → w3.heap.size ≤ b ∧ b < wy.heap.size) := hid fun b hb => ownb HOW.out b hb
          have HXB : Hid (∀ x ∈ xs, x.row.vals.length ≤ 1048576) := hid fun x hx => HWD.out _ (HXR.out ▸ List.mem_map_of_mem (f := fun y : RX => y.row) hx)
          have HSZ : Hid (w3.heap.size ≤ wy.heap.size ∧ wy.heap.size ≤ w5.heap.size) := hid ⟨hz3, Nat.le_trans HK4.out.size HL5.out.size⟩
          have HOB5 := hid (HL5.out.obj (HK4.out.obj (fun e => by have := HOS.out; omega) (HLY.out.obj HOB.out)))
          have HOLT : Hid (O < w3.heap.size) := hid (cell_lt (cell_obj (i := 0) HOB.out (v := .int .i64 0) rfl))
          clear hz3 hzx hin
          go_wp2_with fail
          obtain ⟨R4, hR4⟩ : ∃ RR_ : (Nat → Value) → World → Prop, RR_ = (fun us wz => ∃ n : Nat, us 14 = .int .i64 n ∧ n ≤ m ∧ Scrib (fun b o => w3.heap.size ≤ b ∧ b < wy.heap.size ∧ (some b = (Value.slice a m c').ownBlock → o % 2 = 0)) w5 wz) := ⟨_, rfl⟩
          obtain ⟨mu4, hmu4⟩ : ∃ mu : (Nat → Value) → World → Nat, mu = (fun us _ => m - (intOf (us 14)).toNat) := ⟨_, rfl⟩
          have HR4 := hid hR4; have Hmu4 := hid hmu4; clear hR4 hmu4
          refine wp_loop_frame' [false, false, false, false, false, false, false, false, false, false, false, false, false, false, true, true, false, false, false, false, false, false, false, false, false, false, false, false, false, false, false, false, false, false, false, false, false, false, false, false, false, false, false, false, false, false, false, false, false, false, false, false, false, false, false, false, false, false, false, false, false, false, false, false, false, false, false, false, false, false, false, false, false, false, false, false, false, false, false, false, false, false, false, false, false, false, false, false, false, false, false, false, false, false, false, false, false, false, false, false, false, false, false, false, false, false, false, false, false, false, true, true, true, true, true, true, true, true, true, true, true, true, true, true, true, true, true, true, true, true, true, true, true, true, true, true, true, true] R4 _ mu4 HR4.out ?_ ?_
          · exact ⟨0, rfl, Nat.zero_le _, Scrib.refl _ _⟩
          intro us4 wz hrel
          obtain ⟨n, h14, hn, hsc⟩ := hrel
          simp only [frameOf, Nat.reduceAdd, h14]
          have Hh14 := hid h14; clear h14
          have HN := hid hn; have HSC := hid hsc
          clear hn hsc
          by_cases hml : n < m
          · have HML := hid hml
            have hmx : n < xs.length := by rw [HXN.out]; exact hml
            have h6 := HX6.out
            rw [← HXN.out] at h6
            obtain ⟨g, rfl, -, c1, c2, hcf⟩ := OwnR.cells h6 hmx
            have hax := HA6.out _ (List.getElem_mem hmx)
            have hbx := HXB.out _ (List.getElem_mem hmx)
            have habx := HAB.out _ (List.getElem_mem hmx)
            generalize xs[n] = x at c1 c2 hax hbx habx
            obtain ⟨va, vc, hv⟩ := ownsRow_slice hax
            obtain ⟨vn, hvn⟩ : ∃ vn, vn = x.row.vals.length := ⟨_, rfl⟩
            rw [← hvn] at hv hbx hax
            rw [hv] at c2 hax habx
            have HAX := hid hax; have HBX := hid hbx; have HC2 := hid c2; have HC1 := hid c1; have HABX := hid habx
            have HAP : Hid (∀ b, (Value.slice va vn vc).ownBlock = some b → some b ≠ (Value.slice (some ⟨g, 0, none⟩) m c').ownBlock) := hid fun b hb e => own_apart hax h6 (by decide) b hb (by rw [e]; rfl)
            have HGG : Hid (w3.heap.size ≤ g ∧ g < wy.heap.size) := hid (HGB.out g rfl)
            have HCF : Hid (∀ j, w5.frozen? ⟨g, j, none⟩ = false) := hid hcf
            have HWN : Hid (wrap64 ((n : Int) + 1) = ((n + 1 : Nat) : Int)) := hid (by have := HML.out; have := HDB.out; unfold wrap64; omega)
            have r1 := HSC.out.same c2 (fun h => by have := h.2.2 rfl; omega)
            have hgl := cell_lt r1
            have hn0 : (0 : Int) ≤ n := by omega
            clear h6 c1 c2 hax hbx habx hv hvn hmx hcf
            go_wp2_with fail
            obtain ⟨R6, hR6⟩ : ∃ RR_ : (Nat → Value) → World → Prop, RR_ = (fun us wv => ∃ kk : Nat, us 15 = .int .i64 kk ∧ kk ≤ vn ∧ Scrib (fun b o => w3.heap.size ≤ b ∧ b < wy.heap.size ∧ (some b = (Value.slice (some ⟨g, 0, none⟩) m c').ownBlock → o % 2 = 0)) w5 wv) := ⟨_, rfl⟩
            obtain ⟨mu6, hmu6⟩ : ∃ mu : (Nat → Value) → World → Nat, mu = (fun us _ => vn - (intOf (us 15)).toNat) := ⟨_, rfl⟩
            have HR6 := hid hR6; have Hmu6 := hid hmu6; clear hR6 hmu6
            refine wp_loop_frame' [false, false, false, false, false, false, false, false, false, false, false, false, false, false, false, true, false, false, false, false, false, false, false, false, false, false, false, false, false, false, false, false, false, false, false, false, false, false, false, false, false, false, false, false, false, false, false, false, false, false, false, false, false, false, false, false, false, false, false, false, false, false, false, false, false, false, false, false, false, false, false, false, false, false, false, false, false, false, false, false, false, false, false, false, false, false, false, false, false, false, false, false, false, false, false, false, false, false, false, false, false, false, false, false, false, false, false, false, false, false, false, false, false, false, false, false, true, true, true, true, true, true, true, true, true, true, true, true, true, true, true, true, true, true] R6 _ mu6 HR6.out ?_ ?_
            · exact ⟨0, rfl, Nat.zero_le _, HSC.out⟩
            clear HSC r1 hgl
            intro us6 wv hrel
            obtain ⟨kk, h15, hk, hsc⟩ := hrel
            simp only [frameOf, Nat.reduceAdd, h15]
            have Hh15 := hid h15; clear h15
            have HK := hid hk; have HSC := hid hsc
            have r1 := hsc.same HC2.out (fun h => by have := h.2.2 rfl; omega)
            have hgl := cell_lt r1
            clear hk hsc
            by_cases hkl : kk < vn
            · have HKL := hid hkl
              obtain ⟨bp, cp, he, hb1, hb2, hfr, hcs⟩ := own_val_at HAX.out hkl
              simp only [Value.slice.injEq, true_and] at he
              obtain ⟨rfl, rfl⟩ := he
              obtain ⟨u0, e0⟩ := hcs 0 (by omega)
              rw [Nat.add_zero] at e0
              obtain ⟨u1, e1⟩ := hcs 1 (by omega)
              obtain ⟨u2, e2⟩ := hcs 2 (by omega)
              obtain ⟨t0, s0⟩ := HSC.out.there e0
              obtain ⟨t1, s1⟩ := HSC.out.there e1
              obtain ⟨t2, s2⟩ := HSC.out.there e2
              have z0 := HSC.out.free bp (kk * 3) hb2 (hfr _)
              have z1 := HSC.out.free bp (kk * 3 + 1) hb2 (hfr _)
              have z2 := HSC.out.free bp (kk * 3 + 2) hb2 (hfr _)
              have HBP : Hid (∀ o : Nat, w3.heap.size ≤ bp ∧ bp < wy.heap.size ∧ (some bp = (Value.slice (some ⟨g, 0, none⟩) m c').ownBlock → o % 2 = 0)) := hid fun o => ⟨hb1, HABX.out bp rfl, fun e => absurd e (HAP.out bp rfl)⟩
              have HWK : Hid (wrap64 ((kk : Int) + 1) = ((kk + 1 : Nat) : Int)) := hid (by have := HKL.out; have := HBX.out; unfold wrap64; omega)
              have hkk : (0 : Int) ≤ kk := by omega
              have hbl := cell_lt s0
              clear hcs e0 e1 e2 hb1 hb2 hfr
              go_wp2_with fail
              try simp only [HWK.out]
              refine Round.mk' HR6.out Hmu6.out rfl ?_ ?_
              · exact ⟨kk + 1, rfl, HKL.out, ((HSC.out.set (HBP.out _) _).set (HBP.out _) _).set (HBP.out _) _⟩
              · rw [Hh15.out]; have := HKL.out; simp [intOf, slots]; omega
            · obtain ⟨ut, et⟩ := HSC.out.there HC1.out
              have zt := HSC.out.free g (n * 2) (by have h1 := HGG.out.2; have h2 := HSZ.out.2; omega) (HCF.out _)
              have HGS : Hid (w3.heap.size ≤ g ∧ g < wy.heap.size ∧ (some g = (Value.slice (some ⟨g, 0, none⟩) m c').ownBlock → n * 2 % 2 = 0)) := hid ⟨HGG.out.1, HGG.out.2, fun _ => by omega⟩
              go_wp2_with fail
              try simp only [HWN.out]
              refine Round.mk' HR4.out Hmu4.out rfl ?_ ?_
              · exact ⟨n + 1, rfl, HML.out, HSC.out.set HGS.out _⟩
              · rw [Hh14.out]; have := HML.out; simp [intOf, slots]; omega
          · have HKZ : Hid (Keeps (fun b => b < w3.heap.size ∨ wy.heap.size ≤ b) w4 wz) := hid ((HL5.out.keeps _).trans (HSC.out.keeps.mono fun b _ hb o e => by have h1 := e.1; have h2 := e.2.1; omega))
            have hob := HSC.out.keeps.obj (fun o e => by have h1 := e.1; have h2 := HOLT.out; omega) HOB5.out
            have HOBZ := hid hob
            cases fnd with
            | true =>
              obtain ⟨j, hj, rfl, hjx⟩ := HYES.out rfl
              obtain rfl : ec = 6 := HEC.out
              have hj0 : (0 : Int) ≤ j := by omega
              clear hob hjx hj
              go_wp2_with fail
              refine Meet.mk' HR5.out rfl ?_
              have hat := HAT.out
              have hnx := hat.next
              have hWx := hat.keep0.size
              have hx3 := HL3.out.size
              have hult : ∀ b, (Value.slice ua PL uc).ownBlock = some b → b < w3.heap.size := fun b hb => by have := (hat.ownU.ub b hb).2; omega
              have hclt : ∀ b, (Value.slice xa CL xc).ownBlock = some b → b < w3.heap.size := fun b hb => by have := (hat.ownC.ub b hb).2; omega
              refine ⟨_, _, P, C, rfl, rfl, hat.move HWX.out H4.out HK4.out HKZ.out (fun b _ hb => ?_) (.inl rfl) (.inl rfl) (Nat.le_succ i) (((HU3.out.later HLY.out).keep HK4.out HNU.out).keep HKZ.out fun b hb => .inl (hult b hb)) (((HC3.out.later HLY.out).keep HK4.out HNC.out).keep HKZ.out fun b hb => .inl (hclt b hb)) hat.apart hnx.num hnx.sum hat.goodP hat.goodC⟩
              rcases hb with hb | hb | hb
              · left; omega
              · left; omega
              · right; exact hb
            | false =>
              obtain ⟨rfl, hno⟩ := HNO.out rfl
              obtain rfl : ec = 0 := HEC.out
              have o1 := cell_obj (i := 1) hob (v := .int .i64 tk) rfl
              have o2 := cell_obj (i := 2) hob (v := .string (strB ts)) rfl
              have o3 := cell_obj (i := 3) hob (v := .int .i64 tt) rfl
              have o4 := cell_obj (i := 4) hob (v := .slice da m dc) rfl
              have hOl := cell_lt o4
              clear hob hno
              have hat := HAT.out
              have hWx := hat.keep0.size
              have hx3 := HL3.out.size
              have HULT : Hid (∀ b, (Value.slice ua PL uc).ownBlock = some b → b < w3.heap.size) := hid fun b hb => by have := (hat.ownU.ub b hb).2; omega
              have HCLT : Hid (∀ b, (Value.slice xa CL xc).ownBlock = some b → b < w3.heap.size) := hid fun b hb => by have := (hat.ownC.ub b hb).2; omega
              have HUZ : Hid (OwnH w.heap.size wz (.slice ua PL uc) P) := hid (((HU3.out.later HLY.out).keep HK4.out HNU.out).keep HKZ.out fun b hb => .inl (HULT.out b hb))
              have HCZ : Hid (OwnH w.heap.size wz (.slice xa CL xc) C) := hid (((HC3.out.later HLY.out).keep HK4.out HNC.out).keep HKZ.out fun b hb => .inl (HCLT.out b hb))
              have HUW : Hid (wz.ownsRow w.heap.size 83 4 (.slice ua PL uc) PL (heldCells P)) := hid (by have h := HUZ.out; unfold OwnH at h; rw [← HPL.out] at h; exact h)
              have HPLB : Hid (PL ≤ 1048576) := hid (by rw [HPL.out]; have := HFEW.out.number; omega)
              have HWZ : Hid (w.heap.size ≤ wz.heap.size ∧ w4.heap.size ≤ wz.heap.size) := hid ⟨by have := HK04.out.size; have := HKZ.out.size; omega, HKZ.out.size⟩
              clear hat hWx hx3
              go_wp2_with (at_builtin; go_loud (refine wpList_append_objx rfl _ _ 70 rfl 83 4 56 Tryd.underlying70 heldElem rfl (owns_at HUW.out (Later.alloc _ _)) (news := [.int .i64 tk, .string (strB ts), .int .i64 tt, .slice da m dc]) rfl (obj_new _ _) rfl (held_ones (q := ⟨⟨tk, ts, tt⟩, .slice da m dc, []⟩) rfl) ?c1 ?c2 ?c3 ?_))
              case c1 => have := HPLB.out; omega
              case c2 => have := HPLB.out; unfold maxLen; omega
              case c3 => have := HWZ.out.1; first | omega | (rw [World.size_alloc]; omega)
              intro v7 w7 hx7
              obtain ⟨hk7, hb7⟩ := appx_keep hx7
              have HK7 : Hid (Keeps (fun b => some b ≠ (Value.slice ua PL uc).ownBlock) wz w7) := hid (((Later.alloc wz _).keeps _).trans hk7)
              have HB7 : Hid (v7.ownBlock = (Value.slice ua PL uc).ownBlock ∨ ∀ g, v7.ownBlock = some g → wz.heap.size ≤ g) := hid (hb7.imp id fun h g hg => by have := h g hg; rw [World.size_alloc] at this; omega)
              have HO7 : Hid (OwnH w.heap.size w7 v7 (P ++ [q])) := hid (by
                have h := hx7.own
                unfold OwnH
                rw [List.length_append, heldCells_app, ← HPL.out]
                have e : heldCells [q] = [.int .i64 tk, .string (strB ts), .int .i64 tt, .slice da m dc] := by simp [heldCells, HE.cells, HRV.out, HQT.out]
                rw [e]
                exact h)
              clear hx7 hk7 hb7 o1 o2 o3 o4 hOl
              obtain ⟨a7, c7, hv7⟩ := HO7.out.slice
              generalize (P ++ [q]).length = L7 at hv7
              subst hv7
              go_wp2_with fail
              refine Meet.mk' HR5.out rfl ?_
              have hat := HAT.out
              have hnx := hat.next
              have hWx := hat.keep0.size
              have hx3 := HL3.out.size
              have h3y := HSZ.out.1
              have hz := HWZ.out.2
              have hy4 := HK4.out.size
              refine ⟨.slice a7 L7 c7, .slice xa CL xc, P ++ [q], C, rfl, rfl, hat.move HWX.out H4.out HK4.out ((HKZ.out.mono (S' := fun b => (b < w3.heap.size ∨ wy.heap.size ≤ b) ∧ some b ≠ (Value.slice ua PL uc).ownBlock) fun b _ hb => hb.1).trans (HK7.out.mono fun b _ hb => hb.2)) (fun b _ hb => ⟨?_, fun e => ?_⟩) (HB7.out.imp id fun h g hg => by have := h g hg; omega) (.inl rfl) (Nat.le_succ i) HO7.out (HCZ.out.keep HK7.out fun b hb e => hat.apart b e.symm hb) (fun b hb e => ?_) ?_ ?_ (hat.goodP.snoc HGX.out) hat.goodC⟩
              · rcases hb with hb | hb | hb
                · left; omega
                · left; omega
                · right; exact hb
              · have h1 := hat.ownU.ub b e.symm
                rcases hb with hb | hb | hb
                · omega
                · exact hb.1.2.1 e
                · omega
              · have h1 := hat.ownC.ub b e
                rcases HB7.out with h | h
                · rw [h] at hb; exact hat.apart b hb e
                · have := h b hb; omega
              · have h1 := hat.num; have e : (P ++ [q]).length = P.length + 1 := by simp
                rw [e]; omega
              · have h1 := hat.sum; have h2 := HSX.out; have e : sumH (P ++ [q]) = sumH P + q.rows.length := by rw [sumH_app, sumH_one]
                rw [e]; omega
      by_cases hk1 : xk = 1
      · subst hk1
        have o1 := cell_obj (i := 1) HOB.out (v := .int .i64 tk) rfl
        have o2 := cell_obj (i := 2) HOB.out (v := .string (strB ts)) rfl
        have o3 := cell_obj (i := 3) HOB.out (v := .int .i64 tt) rfl
        have hOl := cell_lt o1
        cases fnd with
        | false =>
          obtain ⟨rfl, hno⟩ := HNO.out rfl
          have HNQ := hid hno
          clear hno
          go_wp2_with fail
          refine (comm_no HOLD.out HFEW.out ⟨tk, ts, tt⟩ HNQ.out).mono ?_
          rintro e w4 ⟨rfl, hL4⟩
          have HL4 := hid (Later.trans _ _ _ HL3.out hL4)
          clear hL4 o1 o2 o3 hOl
          go_wp2_with fail
          refine Meet.mk' HR5.out rfl ?_
          exact ⟨_, _, P, C, rfl, rfl, (HAT.out.later HL4.out).next⟩
        | true =>
          obtain ⟨j, hj, rfl, hjx⟩ := HYES.out rfl
          have hcall := comm_yes HOLD.out HFEW.out hj (by rw [hjx]; have := HGX.out.name; rw [HQT.out] at this; exact this) (by have := HLT.out; have := HLEN.out; unfold maxLen; omega)
          obtain ⟨y, hy⟩ : ∃ y, y = P[j]'hj := ⟨_, rfl⟩
          rw [← hy] at hcall hjx
          rw [hjx] at hcall
          have HCALL := hid hcall
          have HJ := hid hj
          have HY : Hid (y = P[j]'HJ.out) := hid hy
          have hj0 : (0 : Int) ≤ j := by omega
          have hjP : j < PL := by rw [HPL.out]; exact hj
          clear hcall hjx hy hj
          go_wp2_with fail
          refine HCALL.out.mono ?_
          rintro e w4 ⟨rfl, h4, hk4⟩
          have H4 := hid h4; have HK4 := hid hk4
          have HU4 := hid (HU3.out.keep hk4 HNU.out); have HC4 := hid (HC3.out.keep hk4 HNC.out)
          clear h4 hk4 o1 o2 o3 hOl
          obtain ⟨g, rfl, -, p1, p2, p3, p4, -⟩ := HU4.out.at HJ.out
          obtain ⟨ya, yc, hyv⟩ := (HAT.out.goodP _ (List.getElem_mem HJ.out)).slice
          rw [← HY.out] at p1 p2 p3 p4 hyv
          obtain ⟨yn, hyn⟩ : ∃ yn, yn = y.rows.length := ⟨_, rfl⟩
          rw [← hyn] at hyv
          have HYV := hid hyv
          rw [hyv] at p4
          have hgl := cell_lt p1
          clear hyn hyv
          have HCW : Hid (w4.ownsRow w.heap.size 83 4 (.slice xa CL xc) CL (heldCells C)) := hid (by have h := HC4.out; unfold OwnH at h; rw [← HCL.out] at h; exact h)
          have HCLB : Hid (CL ≤ 1048576) := hid (by rw [HCL.out]; have := HFEW.out.number; omega)
          have HCB : Hid (w.heap.size ≤ w4.heap.size) := hid H4.out.base
          go_wp2_with (at_builtin; go_loud (refine wpList_append_objx rfl _ _ 70 rfl 83 4 56 Tryd.underlying70 heldElem rfl (owns_at HCW.out (Later.alloc _ _)) (news := [.int .i64 y.tx.mark, .string (strB y.tx.sink), .int .i64 y.tx.task, .slice ya yn yc]) rfl (obj_new _ _) rfl (held_ones (q := ⟨y.tx, .slice ya yn yc, []⟩) rfl) ?c1 ?c2 ?c3 ?_))
          case c1 => have := HCLB.out; omega
          case c2 => have := HCLB.out; unfold maxLen; omega
          case c3 => have := HCB.out; first | omega | (rw [World.size_alloc]; omega)
          intro v5 w5 hx5
          obtain ⟨hk5, hb5⟩ := appx_keep hx5
          have HK5 : Hid (Keeps (fun b => some b ≠ (Value.slice xa CL xc).ownBlock) w4 w5) := hid (((Later.alloc w4 _).keeps _).trans hk5)
          have HB5 : Hid (v5.ownBlock = (Value.slice xa CL xc).ownBlock ∨ ∀ g, v5.ownBlock = some g → w4.heap.size ≤ g) := hid (hb5.imp id fun h g hg => by have := h g hg; rw [World.size_alloc] at this; omega)
          have HO5 : Hid (OwnH w.heap.size w5 v5 (C ++ [y])) := hid (by
            have h := hx5.own
            unfold OwnH
            rw [List.length_append, heldCells_app, ← HCL.out]
            have e : heldCells [y] = [.int .i64 y.tx.mark, .string (strB y.tx.sink), .int .i64 y.tx.task, .slice ya yn yc] := by simp [heldCells, HE.cells, HYV.out]
            rw [e]
            exact h)
          have HU5 : Hid (OwnH w.heap.size w5 (.slice (some ⟨g, 0, none⟩) PL uc) P) := hid (HU4.out.keep HK5.out fun b hb e => HAT.out.apart b hb e.symm)
          clear hx5 hk5 hb5 p1 p2 p3 p4 hgl
          obtain ⟨a5, c5, hv5⟩ := HO5.out.slice
          generalize (C ++ [y]).length = L5 at hv5
          subst hv5
          go_wp2_with fail
          refine (without_helds HU5.out HAT.out.goodP.one (by have := HFEW.out.number; omega) HJ.out).mono ?_
          rintro e w6 ⟨v6, rfl, ho6, hL6⟩
          have HO6 := hid ho6; have HL6 := hid hL6
          obtain ⟨a6, c6, hv6⟩ := ho6.slice
          generalize (P.take j ++ P.drop (j + 1)).length = L6 at hv6
          subst hv6
          clear ho6 hL6
          go_wp2_with fail
          refine Meet.mk' HR5.out rfl ?_
          have hdl := del_len HJ.out
          have hds := sumH_del HJ.out
          have hat := HAT.out
          have hz := HL3.out.size
          have hz4 := HK4.out.size
          have hz5 := HK5.out.size
          have hy := HY.out
          refine ⟨_, _, P.take j ++ P.drop (j + 1), C ++ [y], rfl, rfl, hat.move HL3.out H4.out HK4.out (HK5.out.trans (HL6.out.keeps _)) (fun b _ hb e => ?_) (.inr fun b hb => by have := (ownb HO6.out b hb).1; omega) HB5.out (Nat.le_refl _) (own_base HO6.out (by have := HCB.out; omega)) (HO5.out.later HL6.out) (fun b hb e => ?_) ?_ ?_ (hat.goodP.del j) (hat.goodC.snoc (by rw [hy]; exact hat.goodP _ (List.getElem_mem HJ.out)))⟩
          · have h1 := hat.ownC.ub b e.symm
            rcases hb with hb | hb | hb
            · omega
            · exact hb.1.2.2 e
            · omega
          · have h1 := (ownb HO6.out b hb).1
            have h2 := (ownb HO5.out b e).2
            omega
          · have h1 := hat.num; have e : (C ++ [y]).length = C.length + 1 := by simp
            rw [e]; omega
          · have h1 := hat.sum; have h2 := HSX.out; have e : sumH (C ++ [y]) = sumH C + y.rows.length := by rw [sumH_app, sumH_one]
            rw [e, hy]; omega
      by_cases hk2 : xk = 2
      · subst hk2
        have o1 := cell_obj (i := 1) HOB.out (v := .int .i64 tk) rfl
        have o2 := cell_obj (i := 2) HOB.out (v := .string (strB ts)) rfl
        have o3 := cell_obj (i := 3) HOB.out (v := .int .i64 tt) rfl
        have hOl := cell_lt o1
        cases fnd with
        | false =>
          obtain ⟨rfl, hno⟩ := HNO.out rfl
          have HNQ := hid hno
          clear hno
          go_wp2_with fail
          refine (abort_no HOLD.out HFEW.out ⟨tk, ts, tt⟩ HNQ.out).mono ?_
          rintro e w4 ⟨rfl, hL4⟩
          have HL4 := hid (Later.trans _ _ _ HL3.out hL4)
          clear hL4 o1 o2 o3 hOl
          go_wp2_with fail
          refine Meet.mk' HR5.out rfl ?_
          exact ⟨_, _, P, C, rfl, rfl, (HAT.out.later HL4.out).next⟩
        | true =>
          obtain ⟨j, hj, rfl, hjx⟩ := HYES.out rfl
          have hcall := abort_yes HOLD.out HFEW.out hj
          rw [hjx] at hcall
          have HCALL := hid hcall
          have HJ := hid hj
          have hj0 : (0 : Int) ≤ j := by omega
          have hjP : j < PL := by rw [HPL.out]; exact hj
          clear hcall hj hjx
          go_wp2_with fail
          refine HCALL.out.mono ?_
          rintro e w4 ⟨rfl, h4, hk4⟩
          have H4 := hid h4; have HK4 := hid hk4
          clear h4 hk4 o1 o2 o3 hOl
          go_wp2_with fail
          refine (without_helds (HU3.out.keep HK4.out HNU.out) HAT.out.goodP.one (by have := HFEW.out.number; omega) HJ.out).mono ?_
          rintro e w5 ⟨v5, rfl, ho5, hL5⟩
          have HO5 := hid ho5; have HL5 := hid hL5
          obtain ⟨a5, c5, hv5⟩ := ho5.slice
          generalize (P.take j ++ P.drop (j + 1)).length = L5 at hv5
          subst hv5
          clear ho5 hL5
          go_wp2_with fail
          refine Meet.mk' HR5.out rfl ?_
          have hB4 : w.heap.size ≤ w4.heap.size := H4.out.base
          have hdl := del_len HJ.out
          have hds := sumH_del HJ.out
          have hat := HAT.out
          refine ⟨_, _, P.take j ++ P.drop (j + 1), C, rfl, rfl, hat.move HL3.out H4.out HK4.out (HL5.out.keeps fun _ => True) (fun _ _ _ => trivial) (.inr fun b hb => (ownb HO5.out b hb).1) (.inl rfl) (Nat.le_succ i) (own_base HO5.out hB4) ((HC3.out.keep HK4.out HNC.out).later HL5.out) (fun b hb e => ?_) ?_ ?_ (hat.goodP.del j) hat.goodC⟩
          · have h1 := (ownb HO5.out b hb).1
            have h2 := (hat.ownC.ub b e).2
            have h3 := HL3.out.size; have h4 := HK4.out.size
            omega
          · have := hat.num; omega
          · have := hat.sum; have := HSX.out; omega
      have o2 := cell_obj (i := 2) HOB.out (v := .string (strB ts)) rfl
      have hOl := cell_lt o2
      have HNAME : Hid (ts.length ≤ maxLen) := hid (by have := HGX.out.name; rw [HQT.out] at this; exact this)
      go_wp2_with fail
      refine (rows_step HOLD.out HFEW.out (fun y hy => (HAT.out.goodC y hy).wide) ts HNAME.out).mono ?_
      rintro e w4 ⟨gv, xs, rfl, hx, hd, hp, hs, hL4⟩
      have HXO := hid hx; have HXD := hid hd; have HXP := hid hp; have HXS := hid hs; have HL4 := hid hL4
      obtain ⟨ga, gc, rfl⟩ := ownsRow_slice hx
      replace o2 := hL4.cell o2
      have hOl := cell_lt o2
      obtain ⟨XL, hXL⟩ : ∃ XL, XL = xs.length := ⟨_, rfl⟩
      have HXL := hid hXL
      rw [← hXL] at HXO ⊢
      clear hx hd hp hs hL4 hXL
      go_wp2_with fail
      have HL34 := hid (Later.trans _ _ _ HL3.out HL4.out)
      refine (seen_any (HAT.out.ownC.later HL34.out) (fun y hy => ((((HAT.out.goodC y hy).rows HAT.out.keep0).rows_later HL34.out).rows_mono fun _ _ => trivial)) ts ?s1 ?s2 ?s3).mono ?_
      case s1 => have := HFEW.out.number; omega
      case s2 => have := HFEW.out.rows; omega
      case s3 => exact fun y hy => (HAT.out.goodC y hy).wide
      rintro e w5 ⟨sv, ys, rfl, hy, hall, hyp, hys, hL5⟩
      have HYO := hid hy; have HYA := hid hall; have HL5 := hid hL5
      have HEQ : Hid (ys.map (·.row) = xs.map (·.row)) := hid (sortedR_unique hys HXS.out (hyp.trans HXP.out.symm))
      obtain ⟨sa, sc, rfl⟩ := ownsRow_slice hy
      have HIX : Hid (IsRows w5 (.slice ga XL gc) (xs.map (·.row))) := hid (by
        have h := (owns_at HXO.out HL5.out)
        exact OwnR.isRows h fun x hx => (owned_vals (owns_at (HXD.out.own x hx) HL5.out)).vals_mono fun _ _ => trivial)
      have HIY : Hid (IsRows w5 (.slice sa ys.length sc) (xs.map (·.row))) := hid (by
        rw [← HEQ.out]
        exact OwnR.isRows hy fun x hx => (owned_vals (hall x hx)).vals_mono fun _ _ => trivial)
      generalize ys.length = YL at HIY
      clear hy hall hyp hys hL5 o2 hOl
      go_wp2_with fail
      refine (same_rows _ _ _ _ _ HIX.out HIY.out).mono ?_
      rintro e w6 ⟨rfl, hL6⟩
      rw [sameR_refl]
      have HL6 := hid (Later.trans _ _ _ HL5.out hL6)
      clear hL6
      go_wp2_with fail
      have HX6 : Hid (w6.ownsRow w3.heap.size 79 2 (.slice ga XL gc) XL (rxCells xs)) := hid (by
        have h := owns_at HXO.out HL6.out
        rw [← HXL.out] at h
        exact h)
      have HA4 : Hid (AllR w3.heap.size w4 xs) := hid HXD.out.own
      have HXB : Hid (∀ x ∈ xs, x.row.vals.length ≤ 1048576) := hid fun x hx => by
        have hm := HXP.out.mem_iff.1 (List.mem_map_of_mem (f := fun y : RX => y.row) hx)
        obtain ⟨y, hy, hr⟩ := seenL_mem hm
        exact (HAT.out.goodC y hy).wide _ hr
      have HXLB : Hid (XL ≤ 1048576) := hid (by
        have h1 := HXP.out.length_eq
        rw [List.length_map] at h1
        have h2 := seenL_len C ts
        have := HFEW.out.rows; have := HXL.out; omega)
      have HSZ : Hid (w3.heap.size ≤ w4.heap.size ∧ w4.heap.size ≤ w6.heap.size) := hid ⟨HL4.out.size, HL6.out.size⟩
      obtain ⟨R3, hR3⟩ : ∃ RR_ : (Nat → Value) → World → Prop, RR_ = (fun us wz => ∃ m : Nat, us 21 = .int .i64 m ∧ m ≤ XL ∧ Scrib (fun b _ => w3.heap.size ≤ b ∧ b < w4.heap.size ∧ some b ≠ (Value.slice ga XL gc).ownBlock) w6 wz) := ⟨_, rfl⟩
      obtain ⟨mu3, hmu3⟩ : ∃ mu : (Nat → Value) → World → Nat, mu = (fun us _ => XL - (intOf (us 21)).toNat) := ⟨_, rfl⟩
      have HR3 := hid hR3; have Hmu3 := hid hmu3; clear hR3 hmu3
      refine wp_loop_frame' [false, false, false, false, false, false, false, false, false, false, false, false, false, false, false, false, false, false, false, false, false, true, true, false, false, false, false, false, false, false, false, false, false, false, false, false, false, false, false, false, false, false, false, false, false, false, false, false, false, false, false, false, false, false, false, false, false, false, false, false, true, true, true, true, true, true, true, true, true, true, true, true, true, true, true, true, true, true, true, true, true, true, true, true] R3 _ mu3 HR3.out ?_ ?_
      · exact ⟨0, rfl, Nat.zero_le _, Scrib.refl _ _⟩
      intro us3 wz hrel
      obtain ⟨m, h21, hm, hsc⟩ := hrel
      simp only [frameOf, Nat.reduceAdd, h21]
      have Hh21 := hid h21; clear h21
      have HM := hid hm; have HSC := hid hsc
      clear hm hsc
      by_cases hml : m < XL
      · have HML := hid hml
        have hmx : m < xs.length := by rw [← HXL.out]; exact hml
        have h6 := HX6.out
        rw [HXL.out] at h6
        obtain ⟨g, rfl, -, -, c2, -⟩ := OwnR.cells h6 hmx
        have hax := HA4.out _ (List.getElem_mem hmx)
        have hbx := HXB.out _ (List.getElem_mem hmx)
        generalize xs[m] = x at c2 hax hbx
        obtain ⟨va, vc, hv⟩ := ownsRow_slice hax
        obtain ⟨vn, hvn⟩ : ∃ vn, vn = x.row.vals.length := ⟨_, rfl⟩
        rw [← hvn] at hv hbx hax
        rw [hv] at c2 hax
        have HAX := hid hax; have HBX := hid hbx; have HC2 := hid c2
        have HAP : Hid (∀ b, (Value.slice va vn vc).ownBlock = some b → some b ≠ (Value.slice (some ⟨g, 0, none⟩) XL gc).ownBlock) := hid fun b hb e => own_apart (owns_at hax HL6.out) h6 (by decide) b hb (by rw [e]; rfl)
        have HWM : Hid (wrap64 ((m : Int) + 1) = ((m + 1 : Nat) : Int)) := hid (by have := HML.out; have := HXLB.out; unfold wrap64; omega)
        have r1 := HSC.out.same c2 (fun h => h.2.2 rfl)
        have hgl := cell_lt r1
        clear h6 c2 hax hbx hv hvn hmx
        go_wp2_with fail
        obtain ⟨R4, hR4⟩ : ∃ RR_ : (Nat → Value) → World → Prop, RR_ = (fun us wy => ∃ k : Nat, us 22 = .int .i64 k ∧ k ≤ vn ∧ Scrib (fun b _ => w3.heap.size ≤ b ∧ b < w4.heap.size ∧ some b ≠ (Value.slice (some ⟨g, 0, none⟩) XL gc).ownBlock) w6 wy) := ⟨_, rfl⟩
        obtain ⟨mu4, hmu4⟩ : ∃ mu : (Nat → Value) → World → Nat, mu = (fun us _ => vn - (intOf (us 22)).toNat) := ⟨_, rfl⟩
        have HR4 := hid hR4; have Hmu4 := hid hmu4; clear hR4 hmu4
        refine wp_loop_frame' [false, false, false, false, false, false, false, false, false, false, false, false, false, false, false, false, false, false, false, false, false, false, true, false, false, false, false, false, false, false, false, false, false, false, false, false, false, false, false, false, false, false, false, false, false, false, false, false, false, false, false, false, false, false, false, false, false, false, false, false, false, false, false, false, false, false, true, true, true, true, true, true, true, true, true, true, true, true, true, true, true, true, true, true] R4 _ mu4 HR4.out ?_ ?_
        · exact ⟨0, rfl, Nat.zero_le _, HSC.out⟩
        clear HSC r1 hgl
        intro us4 wy hrel
        obtain ⟨k, h22, hk, hsc⟩ := hrel
        simp only [frameOf, Nat.reduceAdd, h22]
        have Hh22 := hid h22; clear h22
        have HK := hid hk; have HSC := hid hsc
        have r1 := hsc.same HC2.out (fun h => h.2.2 rfl)
        have hgl := cell_lt r1
        clear hk hsc
        by_cases hkl : k < vn
        · have HKL := hid hkl
          obtain ⟨bp, cp, he, hb1, hb2, hfr, hcs⟩ := own_val_at HAX.out hkl
          simp only [Value.slice.injEq, true_and] at he
          obtain ⟨rfl, rfl⟩ := he
          obtain ⟨u0, e0⟩ := hcs 0 (by omega)
          rw [Nat.add_zero] at e0
          obtain ⟨u1, e1⟩ := hcs 1 (by omega)
          obtain ⟨u2, e2⟩ := hcs 2 (by omega)
          obtain ⟨t0, s0⟩ := HSC.out.there (HL6.out.cell e0)
          obtain ⟨t1, s1⟩ := HSC.out.there (HL6.out.cell e1)
          obtain ⟨t2, s2⟩ := HSC.out.there (HL6.out.cell e2)
          have hb6 : bp < w6.heap.size := by have := HSZ.out.2; omega
          have hz6 : ∀ j, w6.frozen? ⟨bp, j, none⟩ = false := fun j => by rw [HL6.out.frozens bp _ hb2]; exact hfr j
          have z0 := HSC.out.free bp (k * 3) hb6 (hz6 _)
          have z1 := HSC.out.free bp (k * 3 + 1) hb6 (hz6 _)
          have z2 := HSC.out.free bp (k * 3 + 2) hb6 (hz6 _)
          have HBP : Hid (w3.heap.size ≤ bp ∧ bp < w4.heap.size ∧ some bp ≠ (Value.slice (some ⟨g, 0, none⟩) XL gc).ownBlock) := hid ⟨hb1, hb2, HAP.out bp rfl⟩
          have HWK : Hid (wrap64 ((k : Int) + 1) = ((k + 1 : Nat) : Int)) := hid (by have := HKL.out; have := HBX.out; unfold wrap64; omega)
          have hkk : (0 : Int) ≤ k := by omega
          have hbl := cell_lt s0
          clear hcs e0 e1 e2 hb1 hb2 hb6 hz6 hfr
          go_wp2_with fail
          try simp only [HWK.out]
          refine Round.mk' HR4.out Hmu4.out rfl ?_ ?_
          · exact ⟨k + 1, rfl, HKL.out, ((HSC.out.set HBP.out _).set HBP.out _).set HBP.out _⟩
          · rw [Hh22.out]; have := HKL.out; simp [intOf, slots]; omega
        · go_wp2_with fail
          try simp only [HWM.out]
          refine Round.mk' HR3.out Hmu3.out rfl ?_ ?_
          · exact ⟨m + 1, rfl, HML.out, HSC.out⟩
          · rw [Hh21.out]; have := HML.out; simp [intOf, slots]; omega
      · go_wp2_with fail
        refine Meet.mk' HR5.out rfl ?_
        have hk : Keeps (fun b => b < w3.heap.size) w3 wz := (((HL4.out.keeps _).trans (HL6.out.keeps _))).trans (HSC.out.keeps.mono fun b _ hb o e => by have := e.1; omega)
        exact ⟨_, _, P, C, rfl, rfl, HAT.out.stay HL3.out hk⟩
    intro us5 wy hrel
    obtain ⟨u2, ca2, P2, C2, h4n, h5n, hat2⟩ := hrel
    simp only [frameOf, Nat.reduceAdd, h4n, h5n]
    have Hh4n := hid h4n; clear h4n
    have Hh5n := hid h5n; clear h5n
    have HAT2 := hid hat2
    obtain ⟨va, vc, rfl⟩ := hat2.ownU.slice
    have HFEW2 := hid (hat2.few HLT.out HLEN.out HSUM.out)
    clear hat2
    obtain ⟨G, ns, hgl, hc1, hc2⟩ := list_step HAT2.out.has HFEW2.out
    have HGLS := hid hgl; have HC2 := hid hc2
    clear hgl hc2
    go_wp2_with fail
    refine hc1.mono ?_
    rintro e w4 ⟨gv, rfl, hgv, hL4⟩
    have HGV := hid hgv; have HL4 := hid hL4
    obtain ⟨ga, gc, rfl⟩ := hgv.slice
    clear hgv hL4 hc1
    go_wp2_with fail
    refine (HC2.out w4 HL4.out).mono ?_
    rintro e w5 ⟨rfl, hL5⟩
    have HL5 := hid hL5
    have HL45 := hid (Later.trans _ _ _ HL4.out hL5)
    clear hL5
    go_wp2_with fail
    refine (waiting_any (owns_at HGV.out HL5.out) (HAT2.out.ownU.later HL45.out) HGLS.out.len HGLS.out.nlen HGLS.out.mem HGLS.out.rise ?c1 ?c2 ?c3).mono ?_
    case c1 =>
      intro j hj hj2 y hy hyx
      obtain ⟨a', c', e⟩ := (HAT2.out.goodP y hy).slice
      exact ⟨a', c', by rw [e, HGLS.out.cnt j hj hj2 y hy hyx]⟩
    case c2 => have := HGLS.out.len; have := HFEW2.out.number; omega
    case c3 => have := HGLS.out.sum; have := HFEW2.out.rows; omega
    rintro e w6 ⟨rfl, hL6⟩
    have HL6 := hid (Later.trans _ _ _ HL45.out hL6)
    have HWI : Hid (wrap64 ((i : Int) + 1) = ((i + 1 : Nat) : Int)) := hid (by have := HLT.out; have := HLEN.out; unfold wrap64; omega)
    clear hL6
    go_wp2_with fail
    try simp only [HWI.out]
    refine Round.mk' HR1.out Hmu1.out rfl ?_ ?_
    · exact ⟨i + 1, _, ca2, P2, C2, rfl, rfl, rfl, HLT.out, HAT2.out.later HL6.out⟩
    · rw [Hh6.out]; have := HLT.out; simp [intOf, slots]; omega
  · have HLW := hid (Keeps.later (HAT.out.keep0.mono (S' := fun _ => True) fun b hb _ => hb))
    go_wp2_with fail
    go_ret
    exact ⟨rfl, HLW.out⟩
end Go.Proofs.YtcmpjdnbjhkhdaaDoor
