/-
  PROVED HERE: the contracts of the document's word, Seal, Piece.
-/
import Derived.Test.YtgcnchmnciihnaaGreatDoorGRefStPut
import Derived.Test.YtgcnchmnciihnaaGreatDoorGRefInt
import Derived.Test.YtgcnchmnciihnaaGreatDoorGStSave2
namespace Go.Proofs.YtgcnchmnciihnaaGreatDoor
set_option linter.unusedSimpArgs false
set_option linter.unusedVariables false
open Go Go.RowKit

def ByteTo (w : World) (l : List UInt8) (e : Ending) (w' : World) : Prop := ∃ v, e = .returned v ∧ w'.ownsRow w.heap.size 5 1 v l.length (byteCells l) ∧ Later w w'
theorem NewBytes.to {w w' : World} {l : List UInt8} {e : Ending} (h : NewBytes w l e w') : ByteTo w l e w' := let ⟨v, h1, h2⟩ := h; ⟨v, h1, h2.base rfl, h2.later rfl⟩
section
variable {w : World} {ops : Array Oper} {rest : List Oper} {o : Oper} {a : Act} {Q : Exit → Act → World → Prop}
theorem wpList_more (hgd : o.guard = none) (s x : Operand) (ho : o.op = .call { callee := .builtin .append, args := #[s, x], argTypes := #[35, 35] })
    (w0 : World) (B : Nat) (v u : Value) (pre l : List UInt8) (hs : a.eval s = v) (hown : w.ownsRow B 5 1 v pre.length (byteCells pre)) (hx : a.eval x = u) (hu : IsBytes w u l) (hsz : pre.length + l.length ≤ 70368744177664) (hB : B ≤ w.heap.size) (hL : Later w0 w) (h0 : w0.heap.size ≤ B)
    (h : ∀ v' w' m, Hid (m = pre ++ l) → w'.ownsRow B 5 1 v' m.length (byteCells m) → Later w0 w' → Keeps (fun b => some b ≠ v.ownBlock) w w' → (v'.ownBlock = v.ownBlock ∨ ∃ g, v'.ownBlock = some g ∧ w.heap.size ≤ g) → wpList Tryz.prog ops Q rest (a.put o.dst v') w') : wpList Tryz.prog ops Q (o :: rest) a w := by
  obtain ⟨ii, hi, hz0, hz1, hz2⟩ := info_parts infoU8
  refine wpList_put_bytes hgd s x _ ho B 5 ii Tryz.underlying35 hi hz0 hz1 hz2 v pre hs hown All u l hx hu hsz hB fun v' w' hp => h v' w' _ (hid rfl) hp.own (put_later hL hown h0 hp) hp.keep hp.block
end
set_option maxHeartbeats 1000000 in
theorem rword_any (n : Nat) (w : World) (hn : n < 2 ^ 32) : Calls Tryz.prog 81 #[.int .u32 n] w (ByteTo w (w4 n)) := by
  have HN := hid hn
  have hh := hid (show #[Value.int .u8 ((n : Int) / 16777216), .int .u8 ((n : Int) / 65536 % 256), .int .u8 ((n : Int) / 256 % 256), .int .u8 ((n : Int) % 256)] = (byteCells (w4 n)).toArray by
    simp only [w4, byteCells, List.map_cons, List.map_nil, UInt8.toNat_ofNat']
    rw [show (n : Int) / 16777216 = ((n / 16777216 % 2 ^ 8 : Nat) : Int) by omega, show (n : Int) / 65536 % 256 = ((n / 65536 % 2 ^ 8 : Nat) : Int) by omega, show (n : Int) / 256 % 256 = ((n / 256 % 2 ^ 8 : Nat) : Int) by omega, show (n : Int) % 256 = ((n % 2 ^ 8 : Nat) : Int) by omega])
  go_enter Tryz.func81, Tryz.ntmps81
  go_wp2_with fail
  go_ret
  refine ⟨_, rfl, ⟨rfl, .inr ⟨_, 4, _, rfl, Nat.le_refl _, (obj_new _ _).trans (congrArg (fun x => some (Obj.cells x 5 (0, 0))) hh.out), Nat.le_refl _, by unfold maxLen; omega, rfl, rfl⟩⟩, Later.alloc _ _⟩
set_option maxRecDepth 100000 in
set_option maxHeartbeats 2000000 in
theorem rseal_any (v : Value) (l : List UInt8) (w : World) (h : IsBytes w v l) (hl : l.length ≤ 1000000000) : Calls Tryz.prog 60 #[v] w (ByteTo w (sealed l)) := by
  have HV := hid h
  obtain ⟨p, c, rfl, -⟩ := id h
  have HLL := hid hl
  have HCR := hid (crc_lt l)
  have hcv : IntKind.u32.wrap (l.length : Int) = l.length := by simp only [IntKind.wrap, IntKind.signed, IntKind.bits]; simp; omega
  clear h
  go_enter Tryz.func60, Tryz.ntmps60
  go_wp2_with fail
  refine (ref_sum_any _ l _ HV.out).mono ?_
  rintro e w1 ⟨rfl, rfl⟩
  go_wp2_with fail
  refine (rword_any l.length _ (by have := HLL.out; omega)).mono ?_
  rintro e w2 ⟨v2, rfl, ho2, hL2⟩
  have HO2 := hid ho2; have HL2 := hid hL2
  clear ho2 hL2 hcv
  go_wp2_with fail
  refine (rword_any (crc l) _ HCR.out).mono ?_
  rintro e w3 ⟨v3, rfl, ho3, hL3⟩
  have HO3 := hid ho3; have HL3 := hid (Later.trans _ _ _ HL2.out hL3); have HO23 := hid (owns_at HO2.out hL3)
  obtain ⟨a2, c2, rfl⟩ := ownsRow_slice HO2.out
  obtain ⟨a3, c3, rfl⟩ := ownsRow_slice HO3.out
  clear ho3 hL3
  go_wp2_with (at_builtin; refine wpList_more rfl _ _ rfl w w.heap.size _ _ (w4 l.length) (w4 (crc l)) rfl HO23.out rfl ((owned_bytes HO3.out).bytes_mono fun _ _ => trivial) (by show 4 + 4 ≤ _; omega) HL3.out.size HL3.out (Nat.le_refl _) ?_)
  intro v4 w4' m4 HM4 ho4 hL4 hk4 hb_
  have HO4 := hid ho4; have HL4 := hid hL4
  obtain ⟨a4, c4, rfl⟩ := ownsRow_slice ho4
  clear ho4 hL4 hk4 hb_
  go_wp2_with (at_builtin; refine wpList_more rfl _ _ rfl w w.heap.size _ _ m4 l rfl HO4.out rfl (HV.out.bytes_later HL4.out) (by have := HLL.out; rw [HM4.out, List.length_append]; show 4 + 4 + l.length ≤ _; omega) HL4.out.size HL4.out (Nat.le_refl _) ?_)
  intro v5 w5 m5 HM5 ho5 hL5 hk5 hb_
  rw [show m5 = sealed l by rw [HM5.out, HM4.out]; unfold sealed; rw [List.append_assoc]] at ho5
  have HO5 := hid ho5; have HL5 := hid hL5
  obtain ⟨a5, c5, rfl⟩ := ownsRow_slice ho5
  clear ho5 hL5 hk5 HM5 hb_
  go_wp2_with fail
  go_ret
  exact ⟨_, rfl, HO5.out, HL5.out⟩

/-- what holds of cells that are written. -/
structure EncOk (ks : List KX) : Prop where
  val : ∀ x ∈ ks, ∀ y ∈ x.cell.key, validV y = true ∧ ValOk y
  len : ∀ x ∈ ks, x.cell.key.length ≤ 8
  win : ∀ x ∈ ks, (Lit.int .i64 x.cell.win.1).wf = true ∧ (Lit.int .i64 x.cell.win.2).wf = true
  weight : weightL (cellsOf ks) ≤ 200000000
  count : ks.length ≤ 4194304
def grpE (g : Int) (ks : List KX) : List CellP := (cellsOf ks).filter (inGroup g)
theorem grpE_take {g : Int} {ks : List KX} {i : Nat} (h : i < ks.length) : grpE g (ks.take (i + 1)) = grpE g (ks.take i) ++ (if inGroup g ks[i].cell = true then [ks[i].cell] else []) := by
  unfold grpE cellsOf
  rw [List.take_succ_eq_append_getElem h, List.map_append, List.filter_append, List.map_cons, List.map_nil]
  congr 1
  by_cases hg : inGroup g ks[i].cell = true
  · rw [if_pos hg, List.filter_cons_of_pos hg]; rfl
  · rw [if_neg hg, List.filter_cons_of_neg hg]; rfl
theorem EncOk.take_len {ks : List KX} (h : EncOk ks) (g : Int) (i : Nat) : ((grpE g (ks.take i)).flatMap encCell).length ≤ 400000000 := by
  have h1 := encList_len (l := grpE g (ks.take i)) fun c hc y hy => by
    unfold grpE at hc
    obtain ⟨x, hx, rfl⟩ := List.mem_map.1 (List.mem_filter.1 hc).1
    exact (h.val x (List.mem_of_mem_take hx) y hy).1
  have h2 : weightL (grpE g (ks.take i)) ≤ weightL (cellsOf (ks.take i)) := weightL_filter_le _ _
  have h3 : weightL (cellsOf (ks.take i)) ≤ weightL (cellsOf ks) := by
    have := congrArg weightL (List.take_append_drop i (cellsOf ks))
    have e : weightL ((cellsOf ks).take i ++ (cellsOf ks).drop i) = weightL ((cellsOf ks).take i) + weightL ((cellsOf ks).drop i) := by unfold weightL; rw [List.map_append, List.sum_append]
    have e2 : cellsOf (ks.take i) = (cellsOf ks).take i := by unfold cellsOf; rw [List.map_take]
    rw [e2]
    omega
  have h4 := h.weight
  omega
theorem grpE_len (g : Int) (ks : List KX) (i : Nat) : (grpE g (ks.take i)).length ≤ i := by
  unfold grpE cellsOf
  refine Nat.le_trans (List.length_filter_le _ _) ?_
  rw [List.length_map, List.length_take]
  omega
def PieceTo (w : World) (l : List CellP) (e : Ending) (w' : World) : Prop := ∃ v b, e = .returned (.tuple #[v, .bool b]) ∧ w'.ownsRow w.heap.size 5 1 v (sealed (encCells l)).length (byteCells (sealed (encCells l))) ∧ Later w w'
set_option maxRecDepth 100000 in
set_option maxHeartbeats 4000000 in
theorem rpiece_any (g : Int) {B D : Nat} {lo hi : Int} {v : Value} {ks : List KX} (w : World) (h : RefMem B w D lo hi v ks) (he : EncOk ks) :
    Calls Tryz.prog 32 #[.pointer (some ⟨D, 0, none⟩), .int .i64 g] w (PieceTo w (grpE g ks)) := by
  have HH := hid h; have HEK := hid he
  obtain ⟨va, vc, rfl⟩ := ownsRow_slice h.own
  clear h he
  go_enter Tryz.func32, Tryz.ntmps32
  go_wp2_with fail
  obtain ⟨R1, hR1⟩ : ∃ RR_ : (Nat → Value) → World → Prop, RR_ = (fun us wx => ∃ (i n : Nat) (ba : Option Addr) (bc : Nat), us 8 = .int .i64 i ∧ us 6 = .int .i64 n ∧ us 7 = .slice ba ((grpE g (ks.take i)).flatMap encCell).length bc ∧ i ≤ ks.length ∧ n = (grpE g (ks.take i)).length ∧ wx.ownsRow w.heap.size 5 1 (.slice ba ((grpE g (ks.take i)).flatMap encCell).length bc) ((grpE g (ks.take i)).flatMap encCell).length (byteCells ((grpE g (ks.take i)).flatMap encCell)) ∧ Later w wx) := ⟨_, rfl⟩
  obtain ⟨mu1, hmu1⟩ : ∃ mu : (Nat → Value) → World → Nat, mu = (fun us _ => ks.length - (intOf (us 8)).toNat) := ⟨_, rfl⟩
  have HR1 := hid hR1; have Hmu1 := hid hmu1; clear hR1 hmu1
  refine wp_loop_frame' [false, false, false, false, false, false, true, true, true, true, true, true, true, true, true, true, true, false, false, true, true, true, true, true, true, true, true, true, true, true, true, true, true, true, true, true, true, true, true, true, true, true, true, true, true, true, true, true, true, true, true, true, true, true, true, true, true, true, true, true, true, true, true, true, true, true, true, true, true, true, true, true, true, true, true, true, true, true, true, true, true, true, true, true, true, true, true] R1 _ mu1 HR1.out ?_ ?_
  · exact ⟨0, 0, none, 0, rfl, rfl, rfl, Nat.zero_le _, rfl, ⟨rfl, .inl ⟨rfl, rfl⟩⟩, Later.refl _⟩
  intro us1 wx hrel
  obtain ⟨i, n, ba, bc, h8, h6, h7, hi, hn, hown, hL⟩ := hrel
  simp only [frameOf, Nat.reduceAdd, h8, h6, h7]
  have Hh8 := hid h8; clear h8
  have Hh6 := hid h6; clear h6
  have Hh7 := hid h7; clear h7
  have HOW := hid hown; have HL := hid hL; have HI := hid hi; have HN := hid hn
  have HLEN := hid (HEK.out.take_len g i)
  obtain ⟨pre, hpre⟩ : ∃ pre, pre = (grpE g (ks.take i)).flatMap encCell := ⟨_, rfl⟩
  rw [← hpre] at HOW HLEN ⊢
  have HPRE := hid hpre
  clear hpre hown hL hn hi
  have c2 := cell_obj (i := 2) (HL.out.obj HH.out.obj) (v := .slice va ks.length vc) rfl
  by_cases hlt : i < ks.length
  case neg =>
    have hie : i = ks.length := by have := HI.out; omega
    have HTK : Hid (ks.take i = ks) := hid (List.take_of_length_le (by omega))
    have HCN := hid HEK.out.count
    have HNI : Hid (n ≤ i) := hid (by have h1 := HN.out; have h2 := grpE_len g ks i; omega)
    go_wp2_with fail
    refine (ref_int n _ (wf64 (by omega) (by have := HNI.out; have := HCN.out; omega))).mono ?_
    rintro e w2 hp
    obtain ⟨v2, rfl, ho2, hL2⟩ := hp.to
    have HS2 := hid hL2.size
    have HO2 := hid ho2; have HL2 := hid (Later.trans _ _ _ HL.out hL2); have HOW2 := hid (owns_at HOW.out hL2)
    have HZ := hid HL.out.size
    obtain ⟨a2, b2, rfl⟩ := ownsRow_slice ho2
    have HEL := hid (encInt_length (n : Int))
    clear hp ho2 hL2 c2
    go_wp2_with (at_builtin; refine wpList_more rfl _ _ rfl w wx.heap.size _ _ (encInt (n : Int)) pre rfl HO2.out rfl ((owned_bytes HOW2.out).bytes_mono fun _ _ => trivial) (by have := HEL.out; have := HLEN.out; omega) HS2.out HL2.out HZ.out ?_)
    intro v3 w3 m3 HM3_ ho3 hL3 hk3 hb_
    have HM3 : Hid (m3 = encCells (grpE g ks)) := hid (by rw [HM3_.out, HPRE.out, HN.out, HTK.out]; rfl)
    have HML : Hid (m3.length ≤ 500000000) := hid (by rw [HM3_.out, List.length_append]; have := HEL.out; have := HLEN.out; omega)
    have HO3 := hid (own_base ho3 HZ.out); have HL3 := hid hL3
    obtain ⟨a3, b3, rfl⟩ := ownsRow_slice ho3
    clear HM3_ ho3 hL3 hk3 hb_
    go_wp2_with fail
    refine (rseal_any _ m3 _ ((owned_bytes HO3.out).bytes_mono fun _ _ => trivial) (by have := HML.out; omega)).mono ?_
    rintro e w4 ⟨v4, rfl, ho4, hL4⟩
    have HO4 := hid (own_base ho4 HL3.out.size); have HL4 := hid (Later.trans _ _ _ HL3.out hL4)
    obtain ⟨a4, b4, rfl⟩ := ownsRow_slice ho4
    clear ho4 hL4
    go_wp2_with fail
    go_ret2
    exact ⟨_, _, rfl, by rw [← HM3.out]; exact HO4.out, HL4.out⟩
  have HLT := hid hlt
  obtain ⟨g0, rfl, -, q0, q1, q2, q3, -⟩ := OwnC.cells (HH.out.own) hlt
  have hheld := HH.out.held _ (List.getElem_mem hlt)
  have hval := HEK.out.val _ (List.getElem_mem hlt)
  have hklen := HEK.out.len _ (List.getElem_mem hlt)
  have hwin := HEK.out.win _ (List.getElem_mem hlt)
  have hwt : CellP.weight ks[i].cell ≤ 200000000 := Nat.le_trans (weightL_mem (List.mem_map.2 ⟨_, List.getElem_mem hlt, rfl⟩)) HEK.out.weight
  have htk := grpE_take (g := g) hlt
  have hlen2 := HEK.out.take_len g (i + 1)
  rw [htk] at hlen2
  generalize ks[i] = x at q0 q1 q2 q3 hheld hval hklen hwin hwt htk hlen2
  obtain ⟨⟨key, ⟨f, t⟩, data⟩, kv, dv⟩ := x
  obtain ⟨hv1, hv2⟩ := hheld
  simp only at q0 q1 q2 q3 hv1 hv2 hval hklen hwin htk hlen2 hwt
  obtain ⟨ka, kc, rfl, -⟩ := id hv1
  obtain ⟨da, dc, rfl, -⟩ := id hv2
  have hdl : data.length ≤ 200000000 := by unfold CellP.weight at hwt; simp only at hwt; omega
  have HKV := hid hv1.all; have HDV := hid hv2.all; have HVAL := hid hval; have HKL := hid hklen; have HWIN := hid hwin; have HTKE := hid htk; have HLEN2 := hid hlen2; have HDL := hid hdl
  replace q0 := HL.out.cell q0; replace q1 := HL.out.cell q1; replace q2 := HL.out.cell q2; replace q3 := HL.out.cell q3
  obtain ⟨T, hT⟩ : ∃ T, T = wx.heap.size := ⟨_, rfl⟩
  obtain ⟨wz, hwz⟩ : ∃ W, W = wx.alloc (.cells #[.slice ka key.length kc, .int .i64 f, .int .i64 t, .slice da data.length dc] 73 (0, 0)) := ⟨_, rfl⟩
  have hLz : Later wx wz := by rw [hwz]; exact Later.alloc _ _
  have HTZ : Hid (wz.heap[T]? = some (.cells #[.slice ka key.length kc, .int .i64 f, .int .i64 t, .slice da data.length dc] 73 (0, 0))) := hid (by rw [hwz, hT]; exact obj_new _ _)
  have HLZ := hid (Later.trans _ _ _ HL.out hLz); have HOZ := hid (owns_at HOW.out hLz)
  clear hv1 hv2 hval hklen hwin htk hlen2 hwt hdl
  go_upto_region 7 with (fail)
  rw [← hwz, ← hT]
  clear hwz hT hLz q0 q1 q2 q3 c2
  have t0 := cell_obj (i := 0) HTZ.out (v := .slice ka key.length kc) rfl
  go_wp2_with fail
  refine (rgroup_any key _ _ (HKV.out.later HLZ.out) (fun y hy => (HVAL.out y hy).2)).mono ?_
  rintro e w2 ⟨rfl, hL2⟩
  have HL2 := hid (Later.trans _ _ _ HLZ.out hL2); have HO2 := hid (owns_at HOZ.out hL2); have HT2 := hid (hL2.obj HTZ.out)
  have hi2 : (i : Int) + 1 ≤ 9223372036854775807 := by have := HEK.out.count; omega
  clear hL2 HLZ HOZ HTZ t0
  by_cases hg : (groupK key : Int) = g
  case neg =>
    have HTK2 : Hid ((grpE g (ks.take (i + 1))).flatMap encCell = pre) := hid (by rw [HTKE.out, if_neg (by unfold inGroup; simp only [decide_eq_true_eq]; exact hg), List.append_nil, HPRE.out])
    have HTK3 : Hid (n = (grpE g (ks.take (i + 1))).length) := hid (by rw [HTKE.out, if_neg (by unfold inGroup; simp only [decide_eq_true_eq]; exact hg), List.append_nil, HN.out])
    have hgn : ((groupK key : Int) != g) = true := by rw [bne_iff_ne]; exact hg
    clear hg
    go_wp2_with fail
    refine Round.mk' HR1.out Hmu1.out rfl ?_ ?_
    · exact ⟨i + 1, n, ba, bc, by show Value.int .i64 ((i : Int) + 1) = _; rw [Int.natCast_add]; rfl, rfl, by rw [HTK2.out]; rfl, HLT.out, HTK3.out, by rw [HTK2.out]; exact HO2.out, HL2.out⟩
    · show ks.length - (intOf (.int .i64 ((i : Int) + 1))).toNat < ks.length - (intOf (us1 8)).toNat
      rw [Hh8.out]
      have := HLT.out
      simp only [intOf]
      omega
  have hgy : ((groupK key : Int) != g) = false := by rw [hg]; simp
  have HTK2 : Hid ((grpE g (ks.take (i + 1))).flatMap encCell = pre ++ encCell ⟨key, (f, t), data⟩) := hid (by rw [HTKE.out, if_pos (by unfold inGroup; simp only [decide_eq_true_eq]; exact hg), List.flatMap_append, ← HPRE.out]; simp)
  have HTK3 : Hid (n + 1 = (grpE g (ks.take (i + 1))).length) := hid (by rw [HTKE.out, if_pos (by unfold inGroup; simp only [decide_eq_true_eq]; exact hg), List.length_append, HN.out]; rfl)
  have HLEN3 : Hid ((pre ++ encCell ⟨key, (f, t), data⟩).length ≤ 400000000) := hid (by rw [← HTK2.out, HTKE.out]; exact HLEN2.out)
  clear hg HLEN2
  have HEL1 := hid (encInt_length (key.length : Int)); have HEL2 := hid (encInt_length f); have HEL3 := hid (encInt_length t); have HEL4 := hid (encInt_length (data.length : Int))
  have HEC : Hid (encCell ⟨key, (f, t), data⟩ = encInt key.length ++ (encVals key ++ (encInt f ++ (encInt t ++ (encInt data.length ++ data))))) := hid rfl
  have hn2 : (n : Int) + 1 ≤ 9223372036854775807 := by have h1 := HN.out; have h2 := grpE_len g ks i; have := HEK.out.count; omega
  have t0 := cell_obj (i := 0) HT2.out (v := .slice ka key.length kc) rfl
  have HK8 := hid (show (key.length : Int) ≤ 8 by have := HKL.out; omega)
  go_wp2_with fail
  refine (ref_int key.length _ (wf64 (by omega) (by have := HK8.out; omega))).mono ?_
  rintro e w3 hp
  obtain ⟨v3, rfl, ho3, hL3⟩ := hp.to
  have HX3 := hid ho3; have HO3 := hid (owns_at HO2.out hL3); have HT3 := hid (hL3.obj HT2.out); have HL3 := hid (Later.trans _ _ _ HL2.out hL3)
  obtain ⟨a3, b3, rfl⟩ := ownsRow_slice ho3
  clear hp ho3 hL3 t0 HO2 HT2 HL2 hgy hn2
  go_wp2_with (at_builtin; refine wpList_more rfl _ _ rfl w w.heap.size _ _ pre (encInt (key.length : Int)) rfl HO3.out rfl ((owned_bytes HX3.out).bytes_mono fun _ _ => trivial) (by have := HEL1.out; have := HLEN.out; omega) HL3.out.size HL3.out (Nat.le_refl _) ?_)
  intro v4 w4 p4 HP4 ho4 hL4 hk4 hb_
  have HO4 := hid ho4; have HL4 := hid hL4
  have HT4 := hid (hk4.obj (fun e => own_ne HO3.out HT3.out (by decide) e.symm) HT3.out)
  obtain ⟨a4, b4, rfl⟩ := ownsRow_slice ho4
  have HPL4 : Hid (p4.length ≤ 400000100) := hid (by rw [HP4.out, List.length_append]; have := HEL1.out; have := HLEN.out; omega)
  clear ho4 hL4 hk4 hb_ HX3 HO3 HT3 HL3
  go_wp2_with fail
  obtain ⟨R2, hR2⟩ : ∃ RR_ : (Nat → Value) → World → Prop, RR_ = (fun us wb => ∃ (q : Nat) (ca : Option Addr) (cc : Nat) (p5 : List UInt8), us 12 = .int .i64 q ∧ us 7 = .slice ca p5.length cc ∧ q ≤ key.length ∧ p5 = p4 ++ encVals (key.take q) ∧ wb.ownsRow w.heap.size 5 1 (.slice ca p5.length cc) p5.length (byteCells p5) ∧ Later w wb ∧ wb.heap[T]? = some (.cells #[.slice ka key.length kc, .int .i64 f, .int .i64 t, .slice da data.length dc] 73 (0, 0))) := ⟨_, rfl⟩
  obtain ⟨mu2, hmu2⟩ : ∃ mu : (Nat → Value) → World → Nat, mu = (fun us _ => key.length - (intOf (us 12)).toNat) := ⟨_, rfl⟩
  have HR2 := hid hR2; have Hmu2 := hid hmu2; clear hR2 hmu2
  refine wp_loop_frame' [false, false, false, false, false, false, false, true, false, false, false, false, true, true, false, false, false, false, false, false, false, false, false, false, false, false, false, false, false, false, false, false, false, false, false, false, false, false, false, false, false, false, false, false, false, false, false, false, false, false, true, true, true, true, true, true, true, true, true, true, true, true, true, true, true, true] R2 _ mu2 HR2.out ?_ ?_
  · exact ⟨0, a4, b4, p4, rfl, rfl, Nat.zero_le _, by simp [encVals], HO4.out, HL4.out, HT4.out⟩
  clear HO4 HL4 HT4
  intro us2 wb hrel
  obtain ⟨q, ca, cc, p5, h12, h7, hq, hp5, ho5, hL5, hT5⟩ := hrel
  simp only [frameOf, Nat.reduceAdd, h12, h7]
  have Hh12 := hid h12; clear h12
  have Hh7 := hid h7; clear h7
  have HP5 := hid hp5; have HO5 := hid ho5; have HL5 := hid hL5; have HT5 := hid hT5; have HQ := hid hq
  clear hp5 ho5 hL5 hT5 hq
  have t0 := cell_obj (i := 0) HT5.out (v := .slice ka key.length kc) rfl
  have HVL : Hid (∀ j, (encVals (key.take j)).length ≤ 800) := hid fun j => by
    have h2 := encVals_len (l := key.take j) fun y hy => (HVAL.out y (List.mem_of_mem_take hy)).1
    have h3 : (key.take j).length ≤ key.length := by rw [List.length_take]; omega
    have h4 := HKL.out
    omega
  by_cases hlt2 : q < key.length
  · have HLT2 := hid hlt2
    obtain ⟨a9, c9, hv9, -, -, -, hel9⟩ := id HKV.out
    simp only [Value.slice.injEq, true_and] at hv9
    obtain ⟨rfl, rfl⟩ := hv9
    obtain ⟨b1, o1, rfl, -, e1⟩ := hel9 q hlt2
    obtain ⟨p1, p2, p3⟩ := e1.later HL5.out
    have HOKX := hid (HVAL.out _ (List.getElem_mem hlt2))
    have HTK4 := hid (encVals_take hlt2)
    have HVQ : Hid ((encVal key[q]).length ≤ 800) := hid (by
      have h1 := HVL.out (q + 1)
      rw [encVals_take hlt2, List.length_append] at h1
      omega)
    generalize key[q] = x at *
    obtain ⟨xk, xn, xt⟩ := x
    simp only at p1 p2 p3
    clear e1 hel9
    go_wp2_with fail
    refine (ref_value ⟨xk, xn, xt⟩ _ HOKX.out.2 (by have := HVQ.out; omega)).mono ?_
    rintro e w6 hp
    obtain ⟨v6, rfl, ho6, hL6⟩ := hp.to
    have HX6 := hid ho6; have HO6 := hid (owns_at HO5.out hL6); have HT6 := hid (hL6.obj HT5.out); have HL6 := hid (Later.trans _ _ _ HL5.out hL6)
    obtain ⟨a6, b6, rfl⟩ := ownsRow_slice ho6
    clear hp ho6 hL6 p1 p2 p3 t0
    go_wp2_with (at_builtin; refine wpList_more rfl _ _ rfl w w.heap.size _ _ p5 (encVal ⟨xk, xn, xt⟩) rfl HO6.out rfl ((owned_bytes HX6.out).bytes_mono fun _ _ => trivial) (by have h1 := HVQ.out; have h2 := HPL4.out; have h3 := HVL.out q; rw [HP5.out, List.length_append]; omega) HL6.out.size HL6.out (Nat.le_refl _) ?_)
    intro v7 w7 p7 HP7 ho7 hL7 hk7 hb_
    have HO7 := hid ho7; have HL7 := hid hL7
    have HT7 := hid (hk7.obj (fun e => own_ne HO6.out HT6.out (by decide) e.symm) HT6.out)
    obtain ⟨a7, b7, rfl⟩ := ownsRow_slice ho7
    clear ho7 hL7 hk7 hb_
    have hq2 : (q : Int) + 1 ≤ 9223372036854775807 := by have := HLT2.out; have := HKL.out; omega
    go_wp2_with fail
    refine Round.mk' HR2.out Hmu2.out rfl ?_ ?_
    · exact ⟨q + 1, a7, b7, p7, by show Value.int .i64 ((q : Int) + 1) = _; rw [Int.natCast_add]; rfl, rfl, HLT2.out, by rw [HP7.out, HP5.out, HTK4.out, List.append_assoc], HO7.out, HL7.out, HT7.out⟩
    · show key.length - (intOf (.int .i64 ((q : Int) + 1))).toNat < key.length - (intOf (us2 12)).toNat
      rw [Hh12.out]
      have := HLT2.out
      simp only [intOf]
      omega
  obtain rfl : q = key.length := by have := HQ.out; omega
  have HPL5 : Hid (p5.length ≤ 400000900) := hid (by rw [HP5.out, List.length_append]; have := HVL.out key.length; have := HPL4.out; omega)
  have HPE5 : Hid (p5 = pre ++ (encInt key.length ++ encVals key)) := hid (by rw [HP5.out, HP4.out, List.take_length, List.append_assoc])
  have t1 := cell_obj (i := 1) HT5.out (v := .int .i64 f) rfl
  go_wp2_with fail
  refine (ref_int f _ HWIN.out.1).mono ?_
  rintro e w8 hp
  obtain ⟨v8, rfl, ho8, hL8⟩ := hp.to
  have HS8 := hid hL8.size
  have HX8 := hid ho8; have HO8 := hid (owns_at HO5.out hL8); have HT8 := hid (hL8.obj HT5.out); have HL8 := hid (Later.trans _ _ _ HL5.out hL8)
  obtain ⟨a8, b8, rfl⟩ := ownsRow_slice ho8
  clear hp ho8 hL8 t0 t1
  have t2 := cell_obj (i := 2) HT8.out (v := .int .i64 t) rfl
  go_wp2_with fail
  refine (ref_int t _ HWIN.out.2).mono ?_
  rintro e w9 hp
  obtain ⟨v9, rfl, ho9, hL9⟩ := hp.to
  have HS9 := hid hL9.size
  have HX9 := hid ho9; have HO9 := hid (owns_at HO8.out hL9); have HT9 := hid (hL9.obj HT8.out); have HL9 := hid (Later.trans _ _ _ HL8.out hL9)
  have HX89 := hid (owns_at HX8.out hL9)
  obtain ⟨a9, b9, rfl⟩ := ownsRow_slice ho9
  clear hp ho9 hL9 t2
  have t3 := cell_obj (i := 3) HT9.out (v := .slice da data.length dc) rfl
  have hcv := (HDV.out.bytes_later HL9.out).string (P := Tryz.prog) (src := 35) (e := 5) (dst := 9) Tryz.underlying35 Tryz.underlying5 Tryz.underlying9
  go_wp2_with fail
  refine (ref_text (strB data) _ (by rw [strB_size]; have := HDL.out; omega)).mono ?_
  rintro e w10 hp
  obtain ⟨v10, rfl, ho10, hL10⟩ := hp.to
  have het : encText (strB data) = encInt data.length ++ data := by unfold encText; rw [strB_size]; rfl
  rw [het] at ho10
  obtain ⟨m10, hm10⟩ : ∃ m10, m10 = encInt (data.length : Int) ++ data := ⟨_, rfl⟩
  rw [← hm10] at ho10
  have HS10 := hid hL10.size
  have HX8B := hid (owns_at HX89.out hL10); have HX9B := hid (owns_at HX9.out hL10)
  have HX10 := hid ho10; have HO10 := hid (owns_at HO9.out hL10); have HL10 := hid (Later.trans _ _ _ HL9.out hL10)
  have HM10 := hid hm10
  have HXL : Hid (m10.length ≤ 200000100) := hid (by rw [hm10, List.length_append]; have := HEL4.out; have := HDL.out; omega)
  obtain ⟨a10, b10, rfl⟩ := ownsRow_slice ho10
  clear hp ho10 hL10 hcv t3 het hm10
  go_wp2_with (at_builtin; refine wpList_more rfl _ _ rfl w w.heap.size _ _ p5 (encInt f) rfl HO10.out rfl ((owned_bytes HX8B.out).bytes_mono fun _ _ => trivial) (by have := HEL2.out; have := HPL5.out; omega) HL10.out.size HL10.out (Nat.le_refl _) ?_)
  intro v11 w11 p11 HP11 ho11 hL11 hk11 hb11
  have HO11 := hid ho11; have HL11 := hid hL11
  have HB11 : Hid (∀ b, v11.ownBlock = some b → b < wb.heap.size ∨ w10.heap.size ≤ b) := hid fun b hb => by
    rcases hb11 with h | ⟨g, h, h2⟩
    · rw [h] at hb; exact .inl (ownb HO5.out b hb).2
    · rw [h] at hb; injection hb with hb; exact .inr (by omega)
  have HX9C := hid (owns_keep HX9B.out hk11 fun b hb e => by have h1 := (ownb HX9B.out b hb).1; have h2 := (ownb HO5.out b e.symm).2; have := HS8.out; omega)
  have HX10C := hid (owns_keep HX10.out hk11 fun b hb e => by have h1 := (ownb HX10.out b hb).1; have h2 := (ownb HO5.out b e.symm).2; have := HS8.out; have := HS9.out; omega)
  have HPL11 : Hid (p11.length ≤ 400001000) := hid (by rw [HP11.out, List.length_append]; have := HEL2.out; have := HPL5.out; omega)
  have hsz11 := hk11.size
  have HSZ11 := hid hsz11
  obtain ⟨a11, b11, rfl⟩ := ownsRow_slice ho11
  clear ho11 hL11 hk11 hb11 hsz11
  go_wp2_with (at_builtin; refine wpList_more rfl _ _ rfl w w.heap.size _ _ p11 (encInt t) rfl HO11.out rfl ((owned_bytes HX9C.out).bytes_mono fun _ _ => trivial) (by have := HEL3.out; have := HPL11.out; omega) HL11.out.size HL11.out (Nat.le_refl _) ?_)
  intro v12 w12 p12 HP12 ho12 hL12 hk12 hb12
  have HO12 := hid ho12; have HL12 := hid hL12
  have HX10D := hid (owns_keep HX10C.out hk12 fun b hb e => by
    have h1 := (ownb HX10C.out b hb).1
    have h3 := (ownb HX10.out b hb).2
    have := HS8.out; have := HS9.out
    rcases HB11.out b e.symm with h2 | h2 <;> omega)
  have HPL12 : Hid (p12.length ≤ 400001100) := hid (by rw [HP12.out, List.length_append]; have := HEL3.out; have := HPL11.out; omega)
  obtain ⟨a12, b12, rfl⟩ := ownsRow_slice ho12
  clear ho12 hL12 hk12 hb12
  go_wp2_with (at_builtin; refine wpList_more rfl _ _ rfl w w.heap.size _ _ p12 m10 rfl HO12.out rfl ((owned_bytes HX10D.out).bytes_mono fun _ _ => trivial) (by have := HXL.out; have := HPL12.out; omega) HL12.out.size HL12.out (Nat.le_refl _) ?_)
  intro v13 w13 p13 HP13 ho13 hL13 hk13 hb13
  have HO13 := hid ho13; have HL13 := hid hL13
  have HPE13 : Hid (p13 = (grpE g (ks.take (i + 1))).flatMap encCell) := hid (by
    rw [HTK2.out, HP13.out, HM10.out, HP12.out, HP11.out, HPE5.out, HEC.out]
    simp only [List.append_assoc])
  rw [HPE13.out] at HO13
  have hpl := congrArg List.length HPE13.out
  obtain ⟨a13, b13, rfl⟩ := ownsRow_slice ho13
  clear ho13 hL13 hk13 hb13
  have hi3 : (i : Int) + 1 ≤ 9223372036854775807 := by have := HEK.out.count; have := HLT.out; omega
  go_wp2_with fail
  refine Round.mk' HR1.out Hmu1.out rfl ?_ ?_
  · exact ⟨i + 1, n + 1, a13, b13, by show Value.int .i64 ((i : Int) + 1) = _; rw [Int.natCast_add]; rfl, by show Value.int .i64 ((n : Int) + 1) = _; rw [Int.natCast_add]; rfl, by rw [← hpl]; rfl, HLT.out, HTK3.out, by rw [← hpl] at HO13 ⊢; exact HO13.out, HL13.out⟩
  · show ks.length - (intOf (.int .i64 ((i : Int) + 1))).toNat < ks.length - (intOf (us1 8)).toNat
    rw [Hh8.out]
    have := HLT.out
    simp only [intOf]
    omega
end Go.Proofs.YtgcnchmnciihnaaGreatDoor
