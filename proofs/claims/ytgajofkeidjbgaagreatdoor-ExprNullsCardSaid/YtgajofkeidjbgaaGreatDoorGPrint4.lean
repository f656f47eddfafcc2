/-
  PROVED HERE: the contract of expr's print of binary trees.
  PROVED HERE: expr's writing of calls; of all trees.
  PROVED HERE: the contract of expr.Print.
-/
import Derived.Test.YtgajofkeidjbgaaGreatDoorGPrint2
import Derived.Test.YtgajofkeidjbgaaGreatDoorGParAll
import Derived.Test.YtgajofkeidjbgaaGreatDoorGParUnP
import Derived.Test.YtgajofkeidjbgaaGreatDoorGNameKeep
namespace Go.Proofs.YtgajofkeidjbgaaGreatDoor
set_option linter.unusedSimpArgs false
set_option linter.unusedVariables false
open Go.RowKit

theorem alloc2 {w w4 : World} {o1 o2 : Obj} (h : w4 = (w.alloc o1).alloc o2) : Later w w4 ∧ w4.heap[w.heap.size]? = some o1 ∧ w4.heap[w.heap.size + 1]? = some o2 := by
  subst h
  have l1 := Later.alloc w o1
  have l2 := Later.alloc (w.alloc o1) o2
  exact ⟨Later.trans _ _ _ l1 l2, l2.obj (obj_new w o1), obj_at (by simp)⟩
set_option maxRecDepth 100000 in
set_option maxHeartbeats 2000000 in
theorem prc_bin (o : List UInt8) (p : Nat) (x y : Ex) (hx : PrC x) (hy : PrC y) : PrC (.bin o p x y) := by
  intro L N B b l w hL hn ho hb hlen hE
  unfold NodeIn at hn
  obtain ⟨N0, u1, u2, hNb, hN', hobj, hs1, hs2⟩ := hn
  obtain rfl := iface_inj hN'
  obtain ⟨N1, rfl⟩ := hs1.ptr
  obtain ⟨N2, rfl⟩ := hs2.ptr
  unfold ExOk at ho
  have hlen2 : l.length + (o.length + 4 + costP x + costP y) ≤ 1099511627776 := by unfold costP at hlen; exact hlen
  have HX := hid hx; have HY := hid hy; have HB := hid hb; have HL := hid hlen2; have HE := hid hE; have HO := hid ho; have HS1 := hid hs1; have HS2 := hid hs2; have HOBJ := hid hobj; have HNB := hid hNb
  have hbB := hb.base
  have HBB := hid hbB
  have hlv := (level_first ho.1).1
  have HLV := hid hlv
  have c0 : w.cell? ⟨N, 0, none⟩ = some (.string (strB o)) := cell_obj (i := 0) hobj rfl
  have hlt := cell_lt c0
  clear hlen hlen2 hb ho hE hobj hbB hN' hs1 hs2 hx hy hNb hlv
  show Calls Tryz.prog 197 _ w _
  go_enter Tryz.func197, Tryz.ntmps197
  go_wp2_with fail
  obtain ⟨w2, hw2⟩ : ∃ w2, w2 = (w.alloc (.cells #[.pointer (some ⟨N, 0, none⟩)] 140)).alloc (.cells #[.pointer (some ⟨b, 0, none⟩)] 54) := ⟨_, rfl⟩
  obtain ⟨hL2, o1, o2⟩ := alloc2 hw2
  rw [← hw2]
  refine (levelOf_any o HO.out.1 w2).mono ?_
  rintro e w3 ⟨rfl, hL3⟩
  have HL3 := hid (Later.trans _ _ _ hL2 hL3)
  have O1 := hid (hL3.obj o1); have O2 := hid (hL3.obj o2)
  have k1 : w3.cell? ⟨w.heap.size, 0, none⟩ = some (.pointer (some ⟨N, 0, none⟩)) := cell_obj (i := 0) O1.out rfl
  have HSZ : Hid (w.heap.size + 2 ≤ w3.heap.size) := hid (by have := hL3.size; rw [hw2] at this; simpa using this)
  clear hL2 hL3 o1 o2 hw2 c0 hlt
  go_upto_region 3 with (fail)
  obtain ⟨A3, hA3⟩ : ∃ A3, A3 = w3.heap.size := ⟨_, rfl⟩
  obtain ⟨w5, hw5⟩ : ∃ w5, w5 = (w3.alloc (.cells #[.int .i64 (levelO o : Int)] 3)).alloc (.cells #[.int .i64 (levelO o : Int)] 3) := ⟨_, rfl⟩
  obtain ⟨hL5, o3, o4⟩ := alloc2 hw5
  rw [← hA3] at o3 o4
  rw [← hw5]
  have HL5 := hid (Later.trans _ _ _ HL3.out hL5)
  have k1' := hL5.cell k1
  have k2 : w5.cell? ⟨w.heap.size + 1, 0, none⟩ = some (.pointer (some ⟨b, 0, none⟩)) := cell_obj (i := 0) (hL5.obj O2.out) rfl
  have k3 : w5.cell? ⟨A3, 0, none⟩ = some (.int .i64 (levelO o : Int)) := cell_obj (i := 0) o3 rfl
  have k4 : w5.cell? ⟨A3 + 1, 0, none⟩ = some (.int .i64 (levelO o : Int)) := cell_obj (i := 0) o4 rfl
  have O1' := hid (hL5.obj O1.out); have O2' := hid (hL5.obj O2.out); have O3 := hid o3; have O4 := hid o4
  rw [← hA3]
  have HA3 : Hid (w.heap.size + 2 ≤ A3) := hid (by rw [hA3]; exact HSZ.out)
  have hl3 := cell_lt k3
  have hl4 := cell_lt k4
  have z4 := free_obj (i := 0) o4
  have hbr : ∀ (wz : World) (left : Nat), Later w wz → left ≤ 6 → wz.heap[w.heap.size]? = some (.cells #[.pointer (some ⟨N, 0, none⟩)] 140 (0, 0)) → wz.heap[w.heap.size + 1]? = some (.cells #[.pointer (some ⟨b, 0, none⟩)] 54 (0, 0)) →
      wz.heap[A3 + 1]? = some (.cells #[.int .i64 (left : Int)] 3 (0, 0)) → wz.heap[A3]? = some (.cells #[.int .i64 (levelO o : Int)] 3 (0, 0)) → ∀ nd,
      Calls Tryz.prog 192 #[.pointer (some ⟨b, 0, none⟩), .bool nd, .func (.func 198) #[] #[.pointer (some ⟨w.heap.size, 0, none⟩), .pointer (some ⟨w.heap.size + 1, 0, none⟩), .pointer (some ⟨A3 + 1, 0, none⟩), .pointer (some ⟨A3, 0, none⟩)]] wz
        (PrTo B b l (brk nd (printP x left ++ (32 :: (o ++ [32]) ++ printP y (levelO o + 1)))) w) := by
    intro wz left hLz hlf q1 q2 q3 q4 nd
    have hplx := print_len x left
    have hply := print_len y (levelO o + 1)
    have hbb := HBB.out
    have ha3 := HA3.out
    have hfz : Fr B b w wz := Fr.later hLz (by omega)
    refine (bracket_any _ (enters_of Tryz.func198 (by kernel_rfl) rfl) _ nd B b l (printP x left ++ (32 :: (o ++ [32]) ++ printP y (levelO o + 1))) wz (HB.out.later hLz) (by have := hLz.size; omega) (by have := HL.out; simp only [List.length_append, List.length_cons, List.length_nil]; omega) (fun w5 hf5 hb5 => ?_)).mono ?_
    · refine bin1_any x y HX.out HY.out w.heap.size (w.heap.size + 1) (A3 + 1) A3 N N1 N2 B b (levelO o) left o _ (.int .i64 (p : Int)) w5 (by have := HLV.out; omega) hlf HO.out.2.1 HO.out.2.2 (hf5.obj q1 (by omega) (by decide)) (hf5.obj q2 (by omega) (by decide)) (hf5.obj q3 (by omega) (by decide)) (hf5.obj q4 (by omega) (by decide)) ⟨by omega, by omega, by omega, by omega, HNB.out⟩
        ((hfz.trans hf5).obj HOBJ.out HNB.out (by decide)) (NodeIn.fr (hfz.trans hf5) _ _ HS1.out) (NodeIn.fr (hfz.trans hf5) _ _ HS2.out) hb5 ?_ (HE.out.fr (hfz.trans hf5))
      have := HL.out
      have hbo : (brkO nd).length ≤ 1 := by cases nd <;> decide
      simp only [List.length_append]
      omega
    · rintro e w' ⟨rfl, hw⟩
      exact ⟨rfl, hw.before hfz⟩
  have HBR := hid hbr
  have HLL := hid hL
  clear hw5 k1 hbr hA3 hL5 o3 o4 hL
  by_cases h2 : levelO o = 2
  · have h2' : ((levelO o : Int) == 2) = true := by simp; omega
    have H2 := hid h2
    have hlo : ¬ 9223372036854775807 < (levelO o : Int) + 1 := by omega
    clear h2
    go_upto_region 5 with (fail)
    obtain ⟨w6, hw6⟩ : ∃ w6, w6 = w5.setCell ⟨A3 + 1, 0, none⟩ (.int .i64 ((levelO o : Int) + 1)) := ⟨_, rfl⟩
    rw [← hw6]
    have hk6 : Keeps (fun g => g ≠ A3 + 1) w5 w6 := by rw [hw6]; exact (Keeps.refl _ w5).setCell (p := ⟨A3 + 1, 0, none⟩) (.inl fun h => h rfl) _
    have q3 : w6.heap[A3 + 1]? = some (.cells #[.int .i64 ((3 : Nat) : Int)] 3 (0, 0)) := by
      have := obj_setCell (i := 0) O4.out (.int .i64 ((levelO o : Int) + 1))
      rw [hw6, this, H2.out]
      rfl
    have q4 := hk6.obj (by omega) O3.out
    have q1 := hk6.obj (by have := HA3.out; omega) O1'.out
    have q2 := hk6.obj (by have := HA3.out; omega) O2'.out
    have hL6 : Later w w6 := ((HL5.out.keeps (fun _ => True)).under (hk6.mono fun g _ hg => by have := HA3.out; omega)).later
    have j2 : w6.cell? ⟨w.heap.size + 1, 0, none⟩ = some (.pointer (some ⟨b, 0, none⟩)) := cell_obj (i := 0) q2 rfl
    have j4 : w6.cell? ⟨A3, 0, none⟩ = some (.int .i64 (levelO o : Int)) := cell_obj (i := 0) q4 rfl
    have HB2 := hid (HBR.out w6 3 hL6 (by omega) q1 q2 q3 q4)
    clear hk6 q3 q4 q1 q2 hL6 hw6
    go_wp2_with fail
    refine (HB2.out _).mono ?_
    rintro e w7 ⟨rfl, hw⟩
    have HW := hid hw
    clear hw
    go_wp2_with fail
    refine bodyPost_end (results_none rfl _ _ _) rfl ⟨rfl, ?_⟩
    have h := HW.out
    unfold printP
    rw [if_pos H2.out]
    have e : decide ((levelO o : Int) < (L : Int)) = decide (levelO o < L) := by
      rw [decide_eq_decide]
      omega
    first
      | exact h
      | (rw [← e]; exact h)
      | (rw [e] at h; exact h)
  · have h2' : ((levelO o : Int) == 2) = false := by simp; omega
    have H2 := hid h2
    have HB2 := hid (HBR.out w5 (levelO o) HL5.out (by have := HLV.out; omega) O1'.out O2'.out O4.out O3.out)
    clear h2
    go_wp2_with fail
    refine (HB2.out _).mono ?_
    rintro e w7 ⟨rfl, hw⟩
    have HW := hid hw
    clear hw
    go_wp2_with fail
    refine bodyPost_end (results_none rfl _ _ _) rfl ⟨rfl, ?_⟩
    have h := HW.out
    unfold printP
    rw [if_neg H2.out]
    have e : decide ((levelO o : Int) < (L : Int)) = decide (levelO o < L) := by
      rw [decide_eq_decide]
      omega
    first
      | exact h
      | (rw [← e]; exact h)
      | (rw [e] at h; exact h)
end Go.Proofs.YtgajofkeidjbgaaGreatDoor
namespace Go.Proofs.YtgajofkeidjbgaaGreatDoor
set_option linter.unusedSimpArgs false
set_option linter.unusedVariables false
open Go.RowKit

theorem prints_snoc (x : Ex) : ∀ (m : Bool) (l : List Ex), printsP m (l ++ [x]) = printsP m l ++ ((if m = true ∨ l ≠ [] then [44, 32] else []) ++ printP x 0)
  | m, [] => by
    show printsP m [x] = _
    unfold printsP
    unfold printsP
    cases m <;> simp
  | m, y :: l => by
    show printsP m (y :: (l ++ [x])) = _
    conv => lhs; unfold printsP
    conv => rhs; unfold printsP
    rw [prints_snoc x true l]
    simp
theorem costs_take : ∀ (l : List Ex) (k : Nat) (h : k < l.length), costsP (l.take k) + 2 + costP l[k] ≤ costsP l
  | [], k, h => absurd h (by simp)
  | x :: l, 0, h => by
    rw [List.take_zero]
    unfold costsP
    simp only [List.getElem_cons_zero]
    omega
  | x :: l, k + 1, h => by
    have ih := costs_take l k (by simpa using h)
    rw [List.take_succ_cons]
    conv => rhs; unfold costsP
    conv => lhs; unfold costsP
    simp only [List.getElem_cons_succ]
    omega
theorem xs_cost : ∀ l : List Ex, l.length ≤ costsP l
  | [] => Nat.zero_le _
  | x :: l => by
    have := xs_cost l
    unfold costsP
    simp only [List.length_cons]
    omega
theorem nodes_at {S : Nat → Prop} {w : World} : ∀ {vs : List Value} {l : List Ex}, NodesIn S w vs l → ∀ k (h : k < l.length) (h' : k < vs.length), NodeIn S w vs[k] l[k]
  | [], [], _, k, h, _ => absurd h (by simp)
  | v :: vs, x :: l, hn, k, h, h' => by
    unfold NodesIn at hn
    cases k with
    | zero => exact hn.1
    | succ k => exact nodes_at hn.2 k (by simpa using h) (by simpa using h')
  | [], _ :: _, h, _, _, _ => by unfold NodesIn at h; exact h.elim
  | _ :: _, [], h, _, _, _ => by unfold NodesIn at h; exact h.elim
theorem exs_at : ∀ {l : List Ex}, ExsOk l → ∀ x ∈ l, ExOk x
  | [], _, x, h => absurd h (by simp)
  | y :: l, ho, x, h => by
    unfold ExsOk at ho
    rcases List.mem_cons.1 h with rfl | h
    · exact ho.1
    · exact exs_at ho.2 x h
set_option maxRecDepth 100000 in
set_option maxHeartbeats 4000000 in
theorem prc_call (f : List UInt8) (p : Nat) (xs : List Ex) (hx : ∀ x ∈ xs, PrC x) : PrC (.call f p xs) := by
  intro L N B b l w hL hn ho hb hlen hE
  unfold NodeIn at hn
  obtain ⟨N0, vs, a, hNb, hN', hobj, hargs, hns⟩ := hn
  obtain rfl := iface_inj hN'
  unfold ExOk at ho
  have hlen2 : l.length + (f.length + 2 + costsP xs) ≤ 1099511627776 := by unfold costP at hlen; exact hlen
  have hvl := nodes_len hns
  have HX := hid hx; have HB := hid hb; have HL := hid hlen2; have HE := hid hE; have HO := hid ho; have HOBJ := hid hobj; have HNB := hid hNb; have HAR := hid hargs; have HNS := hid hns; have HVL := hid hvl
  have hbB := hb.base
  have HBB := hid hbB
  obtain ⟨ao, cap, ha⟩ : ∃ ao cap, a = .slice ao xs.length cap := by
    rcases hargs.1.2 with ⟨hv, h0⟩ | ⟨g, cap, cur, hv, _⟩
    · exact ⟨none, 0, by rw [hv, ← hvl, h0]⟩
    · exact ⟨_, _, by rw [hv, hvl]⟩
  subst ha
  have c0 : w.cell? ⟨N, 0, none⟩ = some (.string (strB f)) := cell_obj (i := 0) hobj rfl
  have hlt := cell_lt c0
  have hsz : (strB f).size + 1 ≤ 9223372036854775807 := by rw [strB_size]; omega
  have hcat : strB f ++ ⟨#[40]⟩ = strB (f ++ [40]) := by rw [show (⟨#[40]⟩ : ByteArray) = strB [40] from rfl, strB_append]
  have HCAT := hid hcat
  clear hlen hlen2 hb ho hE hobj hbB hN' hx hNb hargs hns hvl hcat
  show Calls Tryz.prog 212 _ w _
  go_enter Tryz.func212, Tryz.ntmps212
  go_wp2_with fail
  rw [HCAT.out]
  refine (write_any B b l (f ++ [40]) w HB.out (by have := HL.out; simp only [List.length_append, List.length_cons, List.length_nil]; omega) (by have := HBB.out; omega)).mono ?_
  rintro e w1 ⟨rfl, hw⟩
  have HW1 := hid hw
  have c2 : w1.cell? ⟨N, 2, none⟩ = some (.slice ao xs.length cap) := cell_obj (i := 2) (hw.fr.obj HOBJ.out HNB.out (by decide)) rfl
  have hlt1 := cell_lt c2
  clear hw c0 hlt hsz
  go_upto_region 2 with (fail)
  obtain ⟨R1, hR1⟩ : ∃ RR_ : (Nat → Value) → World → Prop, RR_ = (fun us wx => ∃ k : Nat, us 20 = .int .i64 k ∧ k ≤ xs.length ∧ Wrote B b l (f ++ [40] ++ printsP false (xs.take k)) w wx) := ⟨_, rfl⟩
  obtain ⟨mu1, hmu1⟩ : ∃ mu : (Nat → Value) → World → Nat, mu = (fun us _ => xs.length - (intOf (us 20)).toNat) := ⟨_, rfl⟩
  have HR1 := hid hR1; have Hmu1 := hid hmu1; clear hR1 hmu1
  refine wp_loop_frame' [false, false, false, false, false, false, true, true, false, false, false, false, false, false, false, false, false, false, false, false, true, true, true, true, true, true, true, true, true, true, true, true, true] R1 _ mu1 HR1.out ?_ ?_
  · refine ⟨0, rfl, Nat.zero_le _, ?_⟩
    rw [List.take_zero, show printsP false [] = [] by unfold printsP; rfl, List.append_nil]
    exact HW1.out
  intro us1 wx hrel
  obtain ⟨k, h20, hk, hwr⟩ := hrel
  simp only [frameOf, Nat.reduceAdd, h20]
  have Hh20 := hid h20; clear h20
  have HK := hid hk; have HWR := hid hwr
  clear hk hwr c2 hlt1
  by_cases hlt : k < xs.length
  · have hki : (k : Int) < xs.length := by omega
    have HLT := hid hlt
    obtain ⟨x, hxk⟩ : ∃ x, xs[k]'HLT.out = x := ⟨_, rfl⟩
    have HM : Hid (x ∈ xs) := hid (hxk ▸ List.getElem_mem _)
    have hkv : k < vs.length := by rw [HVL.out]; exact hlt
    have hnode := nodes_at HNS.out k hlt hkv
    rw [hxk] at hnode
    obtain ⟨N', hv'⟩ := hnode.ptr
    rw [hv'] at hnode
    have HNODE := hid hnode
    have hcell : ∃ g, ao = some ⟨g, 0, none⟩ ∧ wx.cell? ⟨g, k, none⟩ = some (.iface (nodeT x) (.pointer (some ⟨N', 0, none⟩))) := by
      have har := HAR.out.fr HWR.out.fr
      rcases har.1.2 with ⟨hv, h0⟩ | ⟨g, cap', cur, hv, _⟩
      · omega
      · simp only [Value.slice.injEq] at hv
        refine ⟨g, hv.1, ?_⟩
        have h := har.1.cells (g := g) (by rw [hv.1]; rfl) k _ (List.getElem?_eq_getElem hkv)
        rw [add_none rfl, Nat.zero_add, hv'] at h
        exact h
    obtain ⟨g, rfl, hc⟩ := hcell
    have hcl := cell_lt hc
    have HXK := hid hxk
    have HWK : Hid (wrap64 ((k : Int) + 1) = ((k + 1 : Nat) : Int)) := hid (by have := HL.out; have h2 := costs_take xs k hlt; have h3 := xs_cost xs; unfold wrap64; omega)
    clear hnode hlt hkv hv' hxk
    go_upto_if 26 with (fail)
    obtain ⟨R2, hR2⟩ : ∃ RR_ : (Nat → Value) → World → Prop, RR_ = (fun us wy => Wrote B b l (f ++ [40] ++ printsP false (xs.take k) ++ (if k = 0 then [] else [44, 32])) w wy) := ⟨_, rfl⟩
    have HR2 := hid hR2; clear hR2
    refine wp_cut_frame' [false, false, false, false, false, false, false, false, false, false, false, false, false, false, false, false, false, false, false, false, false, false, false, false, false, false, true, true, true] R2 _ HR2.out ?_ ?_
    · by_cases h0 : k = 0
      · have hk0 : ¬ (0 : Int) < k := by omega
        have H0 := hid h0
        clear h0
        go_wp2_with fail
        refine Meet.mk' HR2.out rfl ?_
        rw [if_pos H0.out, List.append_nil]
        exact HWR.out
      · have hk0 : (0 : Int) < k := by omega
        have H0 := hid h0
        clear h0
        have hcost := costs_take xs k HLT.out
        have hlen := prints_len (xs.take k) false
        have HCO := hid hcost; have HLE := hid hlen
        clear hcost hlen
        go_wp2_with fail
        refine (write_any B b (l ++ (f ++ [40] ++ printsP false (xs.take k))) [44, 32] wx HWR.out.at_ (by have := HL.out; have := HCO.out; have := HLE.out; simp only [List.length_append, List.length_cons, List.length_nil]; omega) (by have := HBB.out; have := HWR.out.fr.size; omega)).mono ?_
        rintro e w2 ⟨rfl, hw⟩
        have HW2 := hid (HWR.out.of hw)
        clear hw
        go_wp2_with fail
        refine Meet.mk' HR2.out rfl ?_
        rw [if_neg H0.out]
        exact HW2.out
    intro us2 wy hrel
    obtain hrel := hrel
    simp only [frameOf, Nat.reduceAdd]
    have HWY := hid hrel
    clear hrel
    have hsub : Calls Tryz.prog (printF x) #[.pointer (some ⟨N', 0, none⟩), .pointer (some ⟨b, 0, none⟩), .int .i64 ((0 : Nat) : Int)] wy (PrTo B b (l ++ (f ++ [40] ++ printsP false (xs.take k) ++ (if k = 0 then [] else [44, 32]))) (printP x 0) wy) := by
      have hcost := costs_take xs k HLT.out
      rw [HXK.out] at hcost
      have hlen := prints_len (xs.take k) false
      have h2 : (if k = 0 then ([] : List UInt8) else [44, 32]).length ≤ 2 := by split <;> simp
      refine HX.out x HM.out 0 N' B b _ wy (by omega) (NodeIn.fr HWY.out.fr _ _ HNODE.out) (exs_at HO.out x HM.out) HWY.out.at_ ?_ (HE.out.fr HWY.out.fr)
      have := HL.out
      simp only [List.length_append, List.length_cons, List.length_nil]
      omega
    have HSUB := hid hsub
    have HCL : Hid (wx.heap.size = wx.heap.size) := hid rfl
    clear hsub hc hcl
    have hnext : ∀ w3, Wrote B b (l ++ (f ++ [40] ++ printsP false (xs.take k) ++ (if k = 0 then [] else [44, 32]))) (printP x 0) wy w3 → Wrote B b l (f ++ [40] ++ printsP false (xs.take (k + 1))) w w3 := fun w3 h => by
      have h := HWY.out.of h
      have e : xs.take (k + 1) = xs.take k ++ [x] := by rw [List.take_add_one, List.getElem?_eq_getElem HLT.out, HXK.out]; rfl
      rw [e, prints_snoc]
      have e2 : (if (false : Bool) = true ∨ xs.take k ≠ [] then ([44, 32] : List UInt8) else []) = if k = 0 then [] else [44, 32] := by
        by_cases h0 : k = 0
        · subst h0; simp
        · rw [if_neg h0, if_pos]
          right
          intro e
          have := congrArg List.length e
          rw [List.length_take, List.length_nil] at this
          have := HLT.out
          omega
      rw [e2]
      simpa using h
    have HNEXT := hid hnext
    clear hnext
    cases x
    all_goals
      go_wp2_with fail
      refine (HSUB.out).mono ?_
      rintro e w3 ⟨rfl, hw⟩
      have HW3 := hid hw
      clear hw
      go_wp2_with fail
      try simp only [HWK.out]
      refine Round.mk' HR1.out Hmu1.out rfl ?_ ?_
      · exact ⟨k + 1, rfl, HLT.out, HNEXT.out w3 HW3.out⟩
      · rw [Hh20.out]; have := HLT.out; simp [intOf, slots]; omega
  · have hki : ¬ (k : Int) < xs.length := by omega
    have HKE : Hid (k = xs.length) := hid (by have := HK.out; omega)
    clear hlt
    have hlen := prints_len xs false
    have HLE := hid hlen
    clear hlen
    go_wp2_with fail
    refine (write_any B b (l ++ (f ++ [40] ++ printsP false (xs.take k))) [41] wx HWR.out.at_ (by have := HL.out; have := HLE.out; rw [HKE.out, List.take_length]; simp only [List.length_append, List.length_cons, List.length_nil]; omega) (by have := HBB.out; have := HWR.out.fr.size; omega)).mono ?_
    rintro e w2 ⟨rfl, hw⟩
    have HW2 := hid (HWR.out.of hw)
    clear hw
    go_wp2_with fail
    refine bodyPost_end (results_none rfl _ _ _) rfl ⟨rfl, ?_⟩
    have h := HW2.out
    rw [HKE.out, List.take_length] at h
    unfold printP
    simpa using h
mutual
theorem prc_all : ∀ x : Ex, PrC x
  | .lit v => prc_lit v
  | .name s p => prc_name s p
  | .un neg p x => prc_un neg p x (prc_all x)
  | .bin o p x y => prc_bin o p x y (prc_all x) (prc_all y)
  | .call f p l => prc_call f p l (prcs_all l)
theorem prcs_all : ∀ l : List Ex, ∀ x ∈ l, PrC x
  | [], _, h => absurd h (by simp)
  | y :: l, x, h => by
    rcases List.mem_cons.1 h with h | h
    · rw [h]; exact prc_all y
    · exact prcs_all l x h
end
end Go.Proofs.YtgajofkeidjbgaaGreatDoor
namespace Go.Proofs.YtgajofkeidjbgaaGreatDoor
set_option linter.unusedSimpArgs false
set_option linter.unusedVariables false
open Go.RowKit

/-- what is answered of a text: as the program writes it. -/
def Written (s : List UInt8) (r : Except Fault Ex) (e : Ending) (S : Nat) (w' : World) : Prop := match r with
  | .error f => Fails f.1 f.2 e
  | .ok x => e = .returned (.tuple #[]) ∧ w'.heap[S]? = some (.cells #[.string (strB (printP x 0))] 9 (0, 0))
set_option maxRecDepth 100000 in
set_option maxHeartbeats 4000000 in
theorem print1_any (s : List UInt8) (T S : Nat) (w : World) (hE : ErrVars w) (hT : PowTab w) (hS : SpaceTab w) (t0 : w.heap[T]? = some (.cells #[.string (strB s)] 9 (0, 0))) (s0 : w.heap[S]? = some (.cells #[.string ⟨#[]⟩] 9 (0, 0))) :
    Calls Tryz.prog 18 #[.pointer (some ⟨T, 0, none⟩), .pointer (some ⟨S, 0, none⟩)] w fun e w' => Keeps (fun b => b ≠ S) w w' ∧ ∃ r, TextR true s r ∧ Written s r e S w' ∧ (∀ f, r = .error f → w'.heap[S]? = some (.cells #[.string ⟨#[]⟩] 9 (0, 0))) := by
  have HE := hid hE; have HT := hid hT; have HSP := hid hS; have HS0 := hid s0
  have c0 : w.cell? ⟨T, 0, none⟩ = some (.string (strB s)) := cell_obj (i := 0) t0 rfl
  have hlt := cell_lt c0
  clear hE hT hS s0 t0
  go_enter Tryz.func18, Tryz.ntmps18
  go_wp2_with fail
  obtain ⟨b, hb⟩ : ∃ b, b = w.heap.size := ⟨_, rfl⟩
  obtain ⟨w1, hw1⟩ : ∃ w1, w1 = w.alloc (.cells #[.pointer none, .slice none 0 0] 57) := ⟨_, rfl⟩
  have hL1 : Later w w1 := hw1 ▸ Later.alloc _ _
  have hB1 : w1.heap[b]? = some (.cells #[.pointer none, .slice none 0 0] 57 (0, 0)) := by rw [hw1, hb]; exact obj_new _ _
  have HSZ : Hid (w1.heap.size = b + 1 ∧ w.heap.size = b) := hid ⟨by rw [hw1, hb]; simp, hb.symm⟩
  rw [← hw1, ← hb]
  have HL1 := hid hL1; have HB1 := hid hB1
  clear hw1 hb hL1 hB1 c0 hlt
  refine (parse_any s w1 (HE.out.later HL1.out) (HT.out.later HL1.out) (HSP.out.later HL1.out)).mono ?_
  rintro e w2 ⟨hL2, r, hr, hm⟩
  have HL2 := hid (Later.trans _ _ _ HL1.out hL2)
  have HR := hid hr
  cases r with
  | error f =>
    simp only at hm
    unfold Fails at hm
    subst hm
    exact ⟨rfl, HL2.out.keeps _, .error f, HR.out, rfl, fun f' _ => HL2.out.obj HS0.out⟩
  | ok x =>
    obtain ⟨v, rfl, hn⟩ := hm
    obtain ⟨N, rfl⟩ := hn.ptr
    have hok := text_ok hr
    have hco := text_cost hr
    have hnb : NodeIn (fun g => g ≠ b) w2 (.iface (nodeT x) (.pointer (some ⟨N, 0, none⟩))) x := NodeIn.mono (fun g _ h => by have := HSZ.out.1; omega) _ _ hn
    have hbd : BdAt w2 b b [] := by
      refine .inl ⟨Nat.le_refl _, .slice none 0 0, hL2.obj HB1.out, ?_, by simp [Value.ownBlock]⟩
      exact World.ownsRowF_nil _ _ _ _
    have henv : EnvB b w2 := ⟨w, HL2.out, by rw [HSZ.out.2]; exact Nat.le_refl _, HT.out⟩
    have hpr := prc_all x 0 N b b [] w2 (by omega) hnb hok hbd (by simp only [List.length_nil]; omega) henv
    have HPR := hid hpr
    have HBW : Hid (b ≤ w2.heap.size) := hid (by have := HL2.out.size; have := HSZ.out.2; omega)
    have post : ∀ w3, Wrote b b [] (printP x 0) w2 w3 → Calls Tryz.prog 20 #[.pointer (some ⟨b, 0, none⟩)] w3 fun e w4 => e = .returned (.string (strB (printP x 0))) ∧ Later w w4 := fun w3 hw => by
      have hb3 := hw.at_
      rw [List.nil_append] at hb3
      refine (Tryz.Builder_String_any_k b b (printP x 0) w3 hb3 (by have := HBW.out; have := hw.fr.size; omega)).mono ?_
      rintro e w4 ⟨rfl, -, hbel, -⟩
      refine ⟨rfl, ?_⟩
      have h : Below b w w4 := (HL2.out.mono (by rw [HSZ.out.2]; exact Nat.le_refl _)).trans (hw.fr.1.trans hbel)
      show Below w.heap.size w w4
      rw [HSZ.out.2]
      exact h
    have HPOST := hid post
    clear hn hnb hbd henv hpr hok hco hL2 hr post
    cases x
    all_goals
      go_wp2_with fail
      refine (HPR.out).mono ?_
      rintro e w3 ⟨rfl, hw⟩
      have HW := hid hw
      clear hw
      go_wp2_with fail
      refine (HPOST.out w3 HW.out).mono ?_
      rintro e w4 ⟨rfl, hL4⟩
      have s4 := hL4.obj HS0.out
      have q0 : w4.cell? ⟨S, 0, none⟩ = some (.string ⟨#[]⟩) := cell_obj (i := 0) s4 rfl
      have qz := free_obj (i := 0) s4
      have ql := cell_lt q0
      have HL4 := hid hL4; have HS4 := hid s4
      clear hL4 s4
      go_wp2_with fail
      refine bodyPost_end (results_none rfl _ _ _) rfl ⟨(HL4.out.keeps _).trans ((Keeps.refl _ w4).setCell (p := ⟨S, 0, none⟩) (.inl fun h => h rfl) _), _, HR.out, ⟨rfl, obj_setCell (i := 0) HS4.out _⟩, fun f h => by cases h⟩
/-- what expr.Print answers. -/
def PrintTo (s : List UInt8) (e : Ending) (w' : World) : Prop := ∃ r, TextR true s r ∧ match r with
  | .error f => e = .returned (.tuple #[.string ⟨#[]⟩, .int .i64 (f.2 : Int), errV f.1])
  | .ok x => e = .returned (.tuple #[.string (strB (printP x 0)), .int .i64 0, .nilIface])
set_option maxRecDepth 100000 in
set_option maxHeartbeats 4000000 in
theorem print_any (s : List UInt8) (w : World) (hE : ErrVars w) (hT : PowTab w) (hS : SpaceTab w) : Calls Tryz.prog 8 #[.string (strB s)] w fun e w' => PrintTo s e w' ∧ Later w w' := by
  have HE := hid hE; have HT := hid hT; have HS := hid hS
  clear hE hT hS
  go_enter Tryz.func8, Tryz.ntmps8
  go_wp2_with fail
  obtain ⟨w2, hw2⟩ : ∃ w2, w2 = (w.alloc (.cells #[.string (strB s)] 9)).alloc (.cells #[.string ⟨#[]⟩] 9) := ⟨_, rfl⟩
  obtain ⟨hL2, o1, o2⟩ := alloc2 hw2
  have HSZ : Hid (w2.heap.size = w.heap.size + 2) := hid (by rw [hw2]; simp)
  rw [← hw2]
  have HL2 := hid hL2; have O1 := hid o1; have O2 := hid o2
  clear hw2 hL2 o1 o2
  refine (caught_any 18 (enters_of Tryz.func18 (by kernel_rfl) rfl) #[.pointer (some ⟨w.heap.size, 0, none⟩), .pointer (some ⟨w.heap.size + 1, 0, none⟩)] w2
    (fun w4 => ∃ x, TextR true s (.ok x) ∧ w4.heap[w.heap.size + 1]? = some (.cells #[.string (strB (printP x 0))] 9 (0, 0)) ∧ Keeps (fun b => b ≠ w.heap.size + 1) w2 w4)
    (fun c p w4 => TextR true s (.error (c, p)) ∧ w4.heap[w.heap.size + 1]? = some (.cells #[.string ⟨#[]⟩] 9 (0, 0)) ∧ Keeps (fun b => b ≠ w.heap.size + 1) w2 w4) (fun w3 hL3 hs3 => ?_)).mono ?_
  · have h3 := Later.trans _ _ _ HL2.out hL3
    refine (print1_any s _ _ w3 (HE.out.later h3) (HT.out.later h3) (HS.out.later h3) (hL3.obj O1.out) (hL3.obj O2.out)).mono ?_
    rintro e w4 ⟨hk, r, hr, hm, hn⟩
    refine ⟨hk.mono fun b hb h => by have := HSZ.out; omega, ?_⟩
    cases r with
    | error f => exact .inr ⟨f.1, f.2, hm, hr, hn f rfl, (hL3.keeps _).trans hk⟩
    | ok x => exact .inl ⟨hm.1, x, hr, hm.2, (hL3.keeps _).trans hk⟩
  · rintro e w6 ⟨w4, hk, hc⟩
    rcases hc with ⟨rfl, x, hx, hs, hkk⟩ | ⟨c, p, rfl, hx, hs, hkk⟩
    · have s6 := hk.obj (by have := HSZ.out; omega) hs
      have HL6 : Hid (Later w w6) := hid ((((HL2.out.keeps (fun _ => True)).under (hkk.mono fun b _ hb => by omega)).under (hk.mono fun b _ hb => by have := HSZ.out; omega)).later)
      have q0 : w6.cell? ⟨w.heap.size + 1, 0, none⟩ = some (.string (strB (printP x 0))) := cell_obj (i := 0) s6 rfl
      have qz := free_obj (i := 0) s6
      have ql := cell_lt q0
      have HX := hid hx; have HS6 := hid s6
      clear hk hx hs hkk s6
      go_wp2_with fail
      have q7 : (w6.setCell ⟨w.heap.size + 1, 0, none⟩ (.string (strB (printP x 0)))).cell? ⟨w.heap.size + 1, 0, none⟩ = some (.string (strB (printP x 0))) := cell_obj (i := 0) (obj_setCell (i := 0) HS6.out _) rfl
      refine bodyPost_ret (v := .tuple #[.string (strB (printP x 0)), .int .i64 0, .nilIface]) (by simp [results, Tryz.results8, go_sem, q7]) rfl ⟨⟨.ok x, HX.out, rfl⟩, HL6.out.new (p := ⟨w.heap.size + 1, 0, none⟩) (by simp) _⟩
    · have s6 := hk.obj (by have := HSZ.out; omega) hs
      have HL6 : Hid (Later w w6) := hid ((((HL2.out.keeps (fun _ => True)).under (hkk.mono fun b _ hb => by omega)).under (hk.mono fun b _ hb => by have := HSZ.out; omega)).later)
      have q0 : w6.cell? ⟨w.heap.size + 1, 0, none⟩ = some (.string ⟨#[]⟩) := cell_obj (i := 0) s6 rfl
      have qz := free_obj (i := 0) s6
      have ql := cell_lt q0
      have HX := hid hx; have HS6 := hid s6
      clear hk hx hs hkk s6
      unfold errV
      go_wp2_with fail
      have q7 : (w6.setCell ⟨w.heap.size + 1, 0, none⟩ (.string ⟨#[]⟩)).cell? ⟨w.heap.size + 1, 0, none⟩ = some (.string ⟨#[]⟩) := cell_obj (i := 0) (obj_setCell (i := 0) HS6.out _) rfl
      refine bodyPost_ret (v := .tuple #[.string ⟨#[]⟩, .int .i64 (p : Int), .iface 29 (.int .i64 c)]) (by simp [results, Tryz.results8, go_sem, q7]) rfl ⟨⟨.error (c, p), HX.out, rfl⟩, HL6.out.new (p := ⟨w.heap.size + 1, 0, none⟩) (by simp) _⟩
end Go.Proofs.YtgajofkeidjbgaaGreatDoor
