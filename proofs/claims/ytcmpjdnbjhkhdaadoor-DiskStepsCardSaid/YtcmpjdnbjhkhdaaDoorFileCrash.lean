/-
  PROVED HERE: the contract of the law's crash.
-/
import Derived.Test.YtcmpjdnbjhkhdaaDoorFile
import Derived.Test.YtcmpjdnbjhkhdaaDoorBytes
namespace Go.Proofs.YtcmpjdnbjhkhdaaDoor
set_option linter.unusedSimpArgs false
set_option linter.unusedVariables false
open Go.RowKit

/-- a slice's first half, of the law. -/
def halfS : Value → Value
  | .slice a m c => .slice a (m / 2) c
  | v => v
def stay (x : FE) : FE := ⟨x.name, x.dv, x.data, false⟩
def halfF (x : FE) : FE := ⟨x.name, halfS x.dv, x.data.take (x.data.length / 2), false⟩
def crashF (W : Nat) : Nat → List FE → List FE
  | _, [] => []
  | n, x :: F => if x.loose = true then (if n < W then stay x :: crashF W (n + 1) F else if n = W then halfF x :: crashF W (n + 1) F else crashF W (n + 1) F) else stay x :: crashF W n F
def SlF (l : List FE) : Prop := ∀ x ∈ l, ∃ a m c, x.dv = .slice a m c ∧ m ≤ c ∧ c ≤ maxLen
theorem crashF_len (W : Nat) : ∀ (l : List FE) (n : Nat), (crashF W n l).length ≤ l.length
  | [], n => Nat.le_refl _
  | x :: l, n => by
    have h1 := crashF_len W l n
    have h2 := crashF_len W l (n + 1)
    unfold crashF
    split
    · split
      · simp only [List.length_cons]; omega
      split
      · simp only [List.length_cons]; omega
      · simp only [List.length_cons]; omega
    · simp only [List.length_cons]; omega
theorem halfB (q : Nat) (h : q ≤ 9223372036854775807) : wrap64 ((q : Int) / 2) = ((q / 2 : Nat) : Int) := by unfold wrap64; omega
theorem fileElem : ElemInfo Tryd.prog 51 3 48 := ElemInfo.of infoFile rfl (by decide)
def CrashTo (w : World) (l : List FE) (W : Nat) (e : Ending) (w' : World) : Prop := ∃ v, e = .returned v ∧ OwnF w.heap.size w' v (crashF W 0 l) ∧ Later w w'
set_option maxRecDepth 100000 in
set_option maxHeartbeats 4000000 in
theorem crash_any {B : Nat} {w : World} {v : Value} {l : List FE} (ho : OwnF B w v l) (hs : SlF l) (hb : l.length * 48 ≤ 140737488355328) (whole : Int) :
    Calls Tryd.prog 21 #[v, .int .i64 whole] w (CrashTo w l whole.toNat) := by
  obtain ⟨a, c, rfl⟩ := ho.slice
  have HO := hid ho; have HC := hid ho.len; have HS := hid hs; have HB := hid hb
  obtain ⟨W, hW⟩ : ∃ W, W = whole.toNat := ⟨_, rfl⟩
  rw [← hW]
  have HWW := hid hW
  clear ho hs hb hW
  go_enter Tryd.func21, Tryd.ntmps21
  go_upto_if 10 with (fail)
  obtain ⟨R5, hR5⟩ : ∃ RR_ : (Nat → Value) → World → Prop, RR_ = (fun us wy => us 1 = .int .i64 (W : Int) ∧ wy = w) := ⟨_, rfl⟩
  have HR5 := hid hR5; clear hR5
  refine wp_cut_frame' [false, true, false, false, false, false, false, false, false, true, true] R5 _ HR5.out ?_ ?_
  · by_cases hn : whole < 0
    · have hz : (W : Int) = 0 := by have := HWW.out; omega
      go_wp2_with fail
      refine Meet.mk' HR5.out rfl ?_
      exact ⟨by simp [slots, hz], rfl⟩
    · have hz : (W : Int) = whole := by have := HWW.out; omega
      have HZ := hid hz
      clear hz
      go_wp2_with fail
      refine Meet.mk' HR5.out rfl ?_
      exact ⟨by simp [slots, HZ.out], rfl⟩
  intro us5 wy hrel
  obtain ⟨h1, hwy⟩ := hrel
  simp only [frameOf, Nat.reduceAdd, h1]
  have Hh1 := hid h1; clear h1
  subst wy
  go_wp2_with fail
  obtain ⟨R1, hR1⟩ : ∃ RR_ : (Nat → Value) → World → Prop, RR_ = (fun us wx => ∃ (i n : Nat) (u : Value) (out : List FE), us 7 = .int .i64 i ∧ us 6 = .int .i64 n ∧ us 5 = u ∧ i ≤ l.length ∧ n ≤ i ∧ OwnF w.heap.size wx u out ∧ out.length ≤ i ∧ out ++ crashF W n (l.drop i) = crashF W 0 l ∧ Keeps (fun b => b < w.heap.size) w wx) := ⟨_, rfl⟩
  obtain ⟨mu1, hmu1⟩ : ∃ mu : (Nat → Value) → World → Nat, mu = (fun us _ => l.length - (intOf (us 7)).toNat) := ⟨_, rfl⟩
  have HR1 := hid hR1; have Hmu1 := hid hmu1; clear hR1 hmu1
  refine wp_loop_frame' [false, false, false, false, false, true, true, true, true, false, false, true, true, true, true, true, true, true, true, true, true, true, true, true, true, true, true, true, true, true, true, true, true, true, true, true, true, true, true, true, true, true, true, true, true] R1 _ mu1 HR1.out ?_ ?_
  · exact ⟨0, 0, _, [], rfl, rfl, rfl, Nat.zero_le _, Nat.le_refl _, OwnF.nil _ _, Nat.le_refl _, rfl, Keeps.refl _ _⟩
  intro us1 wx hrel
  obtain ⟨i, n, u, out, h7, h6, h5, hi, hn, hou, hol, heq, hk⟩ := hrel
  simp only [frameOf, Nat.reduceAdd, h7, h6, h5]
  have Hh7 := hid h7; clear h7
  have Hh6 := hid h6; clear h6
  have Hh5 := hid h5; clear h5
  have HI := hid hi; have HN := hid hn; have HOU := hid hou; have HOL := hid hol; have HEQ := hid heq; have HK := hid hk
  obtain ⟨ua, uc, rfl⟩ := hou.slice
  obtain ⟨L, hL⟩ : ∃ L, L = out.length := ⟨_, rfl⟩
  have HLL := hid hL
  rw [← hL] at HOU Hh5 ⊢
  clear hi hn hou hol heq hk hL
  by_cases hlt : i < l.length
  · have HLT := hid hlt
    obtain ⟨g, rfl, hBg, p1, p2, p3, -⟩ := HO.out.at hlt
    obtain ⟨x, hx⟩ : ∃ x, x = l[i]'hlt := ⟨_, rfl⟩
    obtain ⟨ax, q, cx, hdv, hqc, hcx⟩ := HS.out (l[i]'hlt) (List.getElem_mem hlt)
    have HDR : Hid (l.drop i = x :: l.drop (i + 1)) := hid (by rw [List.drop_eq_getElem_cons hlt, hx])
    rw [← hx] at p1 p2 p3 hdv
    rw [hdv] at p2
    have HDV := hid hdv
    have HQ := hid (And.intro hqc hcx)
    have hgw : g < w.heap.size := cell_lt p1
    replace p1 := HK.out.cell (p := ⟨g, i * 3, none⟩) hgw p1
    replace p2 := HK.out.cell (p := ⟨g, i * 3 + 1, none⟩) hgw p2
    replace p3 := HK.out.cell (p := ⟨g, i * 3 + 2, none⟩) hgw p3
    have hgx := cell_lt p1
    have HW : Hid (wrap64 ((i : Int) + 1) = ((i + 1 : Nat) : Int)) := hid (by have := HB.out; have := HLT.out; unfold wrap64; omega)
    have HWN : Hid (wrap64 ((n : Int) + 1) = (n : Int) + 1 ∧ wrap64 (n : Int) = (n : Int)) := hid (by have := HB.out; have := HLT.out; have := HN.out; unfold wrap64; omega)
    obtain ⟨y, hy⟩ : ∃ y, y = x.name := ⟨_, rfl⟩
    have HY := hid hy
    rw [← hy] at p1
    obtain ⟨T, hTe⟩ : ∃ T, T = wx.heap.size := ⟨_, rfl⟩
    have HTE := hid hTe
    have HTW : Hid (w.heap.size ≤ T) := hid (by rw [hTe]; exact HK.out.size)
    have HUT : Hid (some T ≠ (Value.slice ua L uc).ownBlock) := hid (fun e => by have := (ownb HOU.out T e.symm).2; omega)
    clear hx hdv hqc hcx hgw hy
    cases hlo : x.loose with
    | false =>
      have HNX : Hid (crashF W n (l.drop i) = (⟨y, .slice ax q cx, x.data, false⟩ : FE) :: crashF W n (l.drop (i + 1))) := hid (by rw [HDR.out]; show (if x.loose = true then _ else _) = _; rw [hlo]; unfold stay; rw [← HY.out, HDV.out]; rfl)
      have HTO : Hid ((wx.alloc (.cells #[.string (strB y), .slice ax q cx, .bool false] 51 (0, 0))).heap[T]? = some (.cells #[.string (strB y), .slice ax q cx, .bool false] 51 (0, 0))) := hid (by rw [hTe]; exact obj_new _ _)
      rw [hlo] at p3
      clear hlo hTe
      go_upto_region 14 with (fail)
      rw [← HTE.out]
      obtain ⟨wz, hwz⟩ : ∃ wz, wz = wx.alloc (.cells #[.string (strB y), .slice ax q cx, .bool false] 51 (0, 0)) := ⟨_, rfl⟩
      have HTZ : Hid (wz.heap[T]? = some (.cells #[.string (strB y), .slice ax q cx, .bool false] 51 (0, 0))) := hid (by rw [hwz]; exact HTO.out)
      have HKZ : Hid (Keeps (fun b => b < w.heap.size) w wz) := hid (by rw [hwz]; exact HK.out.alloc _)
      have HOZ : Hid (OwnF w.heap.size wz (.slice ua L uc) out) := hid (by rw [hwz]; exact HOU.out.later (Later.alloc _ _))
      change Code.wp _ _ _ _ (wx.alloc (.cells #[.string (strB y), .slice ax q cx, .bool false] 51 (0, 0)))
      rw [← hwz]
      clear hwz p1 p2 p3
      have t2 := cell_obj (i := 2) HTZ.out (v := .bool false) rfl
      have f2 := free_obj (i := 2) HTZ.out
      have hT := cell_lt t2
      go_upto_region 15 with (fail)
      obtain ⟨w2, hw2⟩ : ∃ w2, w2 = wz.setCell ⟨T, 2, none⟩ (.bool false) := ⟨_, rfl⟩
      have HT2 : Hid (w2.heap[T]? = some (.cells #[.string (strB y), .slice ax q cx, .bool false] 51 (0, 0))) := hid (by rw [hw2]; exact obj_setCell (i := 2) HTZ.out (.bool false))
      have HK2 : Hid (Keeps (fun b => b < w.heap.size) w w2) := hid (by rw [hw2]; exact HKZ.out.setCell (p := ⟨T, 2, none⟩) (.inl (by have := HTW.out; simp only; omega)) _)
      have HO2 : Hid (OwnF w.heap.size w2 (.slice ua L uc) out) := hid (by rw [hw2]; exact HOZ.out.keep ((Keeps.refl (fun b => b ≠ T) wz).setCell (p := ⟨T, 2, none⟩) (.inl fun h => h rfl) _) (fun b hb e => HUT.out (by rw [hb, e])))
      rw [← hw2]
      clear hw2 t2 f2 hT HTZ HKZ HOZ
      have t0 := cell_obj (i := 0) HT2.out (v := .string (strB y)) rfl
      have t1 := cell_obj (i := 1) HT2.out (v := .slice ax q cx) rfl
      have t2 := cell_obj (i := 2) HT2.out (v := .bool false) rfl
      have hT := cell_lt t0
      have HOA : Hid ((w2.alloc (.cells #[.string (strB y), .slice ax q cx, .bool false] 51 (0, 0))).ownsRow w.heap.size 51 3 (.slice ua L uc) out.length (fileCells out)) := hid (HO2.out.later (Later.alloc w2 (.cells #[.string (strB y), .slice ax q cx, .bool false] 51 (0, 0))))
      have HWA : Hid (w.heap.size ≤ (w2.alloc (.cells #[.string (strB y), .slice ax q cx, .bool false] 51 (0, 0))).heap.size) := hid (HK2.out.alloc _).size
      go_wp2_with (at_builtin; refine wpList_append_obj rfl _ _ 44 rfl 51 3 48 Tryd.underlying44 fileElem rfl HOA.out (news := [.string (strB y), .slice ax q cx, .bool false]) rfl (obj_new w2 _) rfl (fun z hz => by simp only [List.mem_cons, List.not_mem_nil, or_false] at hz; rcases hz with rfl | rfl | rfl <;> rfl) ?c1 ?c2 HWA.out ?_)
      case c1 => have := HOL.out; have := HB.out; have := HLT.out; omega
      case c2 => have := HOL.out; have := HB.out; have := HLT.out; unfold maxLen; omega
      intro v3 w3 hA3
      have HO3 : Hid (OwnF w.heap.size w3 v3 (out ++ [⟨y, .slice ax q cx, x.data, false⟩])) := hid (by
        have h := hA3.own
        unfold OwnF
        have e : fileCells (out ++ [⟨y, .slice ax q cx, x.data, false⟩]) = fileCells out ++ [.string (strB y), .slice ax q cx, .bool false] := by rw [fileCells_app]; rfl
        rw [List.length_append, e]
        exact h)
      have HK3 : Hid (Keeps (fun b => b < w.heap.size) w w3) := hid ((HK2.out.alloc _).trans ((Keeps.of_grown hA3.grown).mono fun b _ hb e => by have := (ownb HOA.out b e.symm).1; omega))
      clear hA3 t0 t1 t2 hT
      go_wp2_with fail
      try simp only [HW.out]
      refine Round.mk' HR1.out Hmu1.out rfl ?_ ?_
      · refine ⟨i + 1, n, v3, out ++ [⟨y, .slice ax q cx, x.data, false⟩], rfl, rfl, rfl, HLT.out, by have := HN.out; omega, HO3.out, by rw [List.length_append, List.length_singleton]; have := HOL.out; omega, ?_, HK3.out⟩
        rw [List.append_assoc]
        exact (congrArg (out ++ ·) HNX.out).symm.trans HEQ.out
      · rw [Hh7.out]; have := HLT.out; simp [intOf, slots]; omega
    | true =>
      have HTO : Hid ((wx.alloc (.cells #[.string (strB y), .slice ax q cx, .bool true] 51 (0, 0))).heap[T]? = some (.cells #[.string (strB y), .slice ax q cx, .bool true] 51 (0, 0))) := hid (by rw [hTe]; exact obj_new _ _)
      have HCR : Hid (crashF W n (l.drop i) = if n < W then stay x :: crashF W (n + 1) (l.drop (i + 1)) else if n = W then halfF x :: crashF W (n + 1) (l.drop (i + 1)) else crashF W (n + 1) (l.drop (i + 1))) := hid (by rw [HDR.out]; show (if x.loose = true then _ else _) = _; rw [hlo]; rfl)
      rw [hlo] at p3
      clear hlo
      obtain ⟨hwn, hwm⟩ := HWN.out
      by_cases hnW : n < W
      · have HNX : Hid (crashF W n (l.drop i) = (⟨y, .slice ax q cx, x.data, false⟩ : FE) :: crashF W (n + 1) (l.drop (i + 1))) := hid (by rw [HCR.out, if_pos hnW]; unfold stay; rw [← HY.out, HDV.out])
        have e1 : ¬ (n : Int) = W := by omega
        have e2 : ¬ (W : Int) < n := by omega
        have e3 : (n : Int) ≤ W := by omega
        clear hTe
        go_upto_region 14 with (fail)
        rw [← HTE.out]
        obtain ⟨wz, hwz⟩ : ∃ wz, wz = wx.alloc (.cells #[.string (strB y), .slice ax q cx, .bool true] 51 (0, 0)) := ⟨_, rfl⟩
        have HTZ : Hid (wz.heap[T]? = some (.cells #[.string (strB y), .slice ax q cx, .bool true] 51 (0, 0))) := hid (by rw [hwz]; exact HTO.out)
        have HKZ : Hid (Keeps (fun b => b < w.heap.size) w wz) := hid (by rw [hwz]; exact HK.out.alloc _)
        have HOZ : Hid (OwnF w.heap.size wz (.slice ua L uc) out) := hid (by rw [hwz]; exact HOU.out.later (Later.alloc _ _))
        change Code.wp _ _ _ _ (wx.alloc (.cells #[.string (strB y), .slice ax q cx, .bool true] 51 (0, 0)))
        rw [← hwz]
        clear hwz p1 p2 p3
        have t2 := cell_obj (i := 2) HTZ.out (v := .bool true) rfl
        have f2 := free_obj (i := 2) HTZ.out
        have hT := cell_lt t2
        go_upto_region 15 with (fail)
        obtain ⟨w2, hw2⟩ : ∃ w2, w2 = wz.setCell ⟨T, 2, none⟩ (.bool false) := ⟨_, rfl⟩
        have HT2 : Hid (w2.heap[T]? = some (.cells #[.string (strB y), .slice ax q cx, .bool false] 51 (0, 0))) := hid (by rw [hw2]; exact obj_setCell (i := 2) HTZ.out (.bool false))
        have HK2 : Hid (Keeps (fun b => b < w.heap.size) w w2) := hid (by rw [hw2]; exact HKZ.out.setCell (p := ⟨T, 2, none⟩) (.inl (by have := HTW.out; simp only; omega)) _)
        have HO2 : Hid (OwnF w.heap.size w2 (.slice ua L uc) out) := hid (by rw [hw2]; exact HOZ.out.keep ((Keeps.refl (fun b => b ≠ T) wz).setCell (p := ⟨T, 2, none⟩) (.inl fun h => h rfl) _) (fun b hb e => HUT.out (by rw [hb, e])))
        rw [← hw2]
        clear hw2 t2 f2 hT HTZ HKZ HOZ
        have t0 := cell_obj (i := 0) HT2.out (v := .string (strB y)) rfl
        have t1 := cell_obj (i := 1) HT2.out (v := .slice ax q cx) rfl
        have t2 := cell_obj (i := 2) HT2.out (v := .bool false) rfl
        have hT := cell_lt t0
        have HOA : Hid ((w2.alloc (.cells #[.string (strB y), .slice ax q cx, .bool false] 51 (0, 0))).ownsRow w.heap.size 51 3 (.slice ua L uc) out.length (fileCells out)) := hid (HO2.out.later (Later.alloc w2 (.cells #[.string (strB y), .slice ax q cx, .bool false] 51 (0, 0))))
        have HWA : Hid (w.heap.size ≤ (w2.alloc (.cells #[.string (strB y), .slice ax q cx, .bool false] 51 (0, 0))).heap.size) := hid (HK2.out.alloc _).size
        go_wp2_with (at_builtin; refine wpList_append_obj rfl _ _ 44 rfl 51 3 48 Tryd.underlying44 fileElem rfl HOA.out (news := [.string (strB y), .slice ax q cx, .bool false]) rfl (obj_new w2 _) rfl (fun z hz => by simp only [List.mem_cons, List.not_mem_nil, or_false] at hz; rcases hz with rfl | rfl | rfl <;> rfl) ?c1 ?c2 HWA.out ?_)
        case c1 => have := HOL.out; have := HB.out; have := HLT.out; omega
        case c2 => have := HOL.out; have := HB.out; have := HLT.out; unfold maxLen; omega
        intro v3 w3 hA3
        have HO3 : Hid (OwnF w.heap.size w3 v3 (out ++ [⟨y, .slice ax q cx, x.data, false⟩])) := hid (by
          have h := hA3.own
          unfold OwnF
          have e : fileCells (out ++ [⟨y, .slice ax q cx, x.data, false⟩]) = fileCells out ++ [.string (strB y), .slice ax q cx, .bool false] := by rw [fileCells_app]; rfl
          rw [List.length_append, e]
          exact h)
        have HK3 : Hid (Keeps (fun b => b < w.heap.size) w w3) := hid ((HK2.out.alloc _).trans ((Keeps.of_grown hA3.grown).mono fun b _ hb e => by have := (ownb HOA.out b e.symm).1; omega))
        clear hA3 t0 t1 t2 hT
        go_wp2_with fail
        try simp only [HW.out]
        refine Round.mk' HR1.out Hmu1.out rfl ?_ ?_
        · refine ⟨i + 1, n + 1, v3, out ++ [⟨y, .slice ax q cx, x.data, false⟩], rfl, rfl, rfl, HLT.out, by have := HN.out; omega, HO3.out, by rw [List.length_append, List.length_singleton]; have := HOL.out; omega, ?_, HK3.out⟩
          rw [List.append_assoc]
          exact (congrArg (out ++ ·) HNX.out).symm.trans HEQ.out
        · rw [Hh7.out]; have := HLT.out; simp [intOf, slots]; omega
      · by_cases hnE : n = W
        · subst hnE
          obtain ⟨hq, hqe⟩ : ∃ hq, hq = q / 2 := ⟨_, rfl⟩
          have HNX : Hid (crashF n n (l.drop i) = (⟨y, .slice ax hq cx, x.data.take (x.data.length / 2), false⟩ : FE) :: crashF n (n + 1) (l.drop (i + 1))) := hid (by rw [HCR.out, if_neg hnW, if_pos rfl]; unfold halfF; rw [← HY.out, HDV.out, hqe]; rfl)
          have hqc : (hq : Int) ≤ cx := by have := HQ.out.1; omega
          have hq0 : (0 : Int) ≤ hq := by omega
          have hqw : wrap64 ((q : Int) / 2) = (hq : Int) := by rw [hqe]; exact halfB q (Nat.le_trans HQ.out.1 HQ.out.2)
          have HQW := hid hqw
          clear hTe hqe hqw hwn hwm
          go_upto_region 11 with (fail)
          rw [← HTE.out]
          obtain ⟨w1, hw1⟩ : ∃ w1, w1 = wx.alloc (.cells #[.string (strB y), .slice ax q cx, .bool true] 51 (0, 0)) := ⟨_, rfl⟩
          have HT1 : Hid (w1.heap[T]? = some (.cells #[.string (strB y), .slice ax q cx, .bool true] 51 (0, 0))) := hid (by rw [hw1]; exact HTO.out)
          have HK1 : Hid (Keeps (fun b => b < w.heap.size) w w1) := hid (by rw [hw1]; exact HK.out.alloc _)
          have HO1 : Hid (OwnF w.heap.size w1 (.slice ua L uc) out) := hid (by rw [hw1]; exact OwnF.later HOU.out (Later.alloc _ _))
          rw [← hw1]
          clear hw1 p1 p2 p3 hgx
          have s1 := cell_obj (i := 1) HT1.out (v := .slice ax q cx) rfl
          have g1 := free_obj (i := 1) HT1.out
          have hT1 := cell_lt s1
          have hqw := HQW.out
          obtain ⟨hwn, hwm⟩ := HWN.out
          go_upto_region 14 with (fail)
          obtain ⟨wz, hwz⟩ : ∃ wz, wz = w1.setCell ⟨T, 1, none⟩ (.slice ax hq cx) := ⟨_, rfl⟩
          have HTZ : Hid (wz.heap[T]? = some (.cells #[.string (strB y), .slice ax hq cx, .bool true] 51 (0, 0))) := hid (by rw [hwz]; exact obj_setCell (i := 1) HT1.out (.slice ax hq cx))
          have HKZ : Hid (Keeps (fun b => b < w.heap.size) w wz) := hid (by rw [hwz]; exact HK1.out.setCell (p := ⟨T, 1, none⟩) (.inl (by have := HTW.out; simp only; omega)) _)
          have HOZ : Hid (OwnF w.heap.size wz (.slice ua L uc) out) := hid (by rw [hwz]; exact HO1.out.keep ((Keeps.refl (fun b => b ≠ T) w1).setCell (p := ⟨T, 1, none⟩) (.inl fun h => h rfl) _) (fun b hb e => HUT.out (by rw [hb, e])))
          change Code.wp _ _ _ _ (w1.setCell ⟨T, 1, none⟩ (.slice ax hq cx))
          rw [← hwz]
          clear hwz hqw hwn hwm s1 g1 hT1
          have t2 := cell_obj (i := 2) HTZ.out (v := .bool true) rfl
          have f2 := free_obj (i := 2) HTZ.out
          have hT := cell_lt t2
          go_upto_region 15 with (fail)
          obtain ⟨w2, hw2⟩ : ∃ w2, w2 = wz.setCell ⟨T, 2, none⟩ (.bool false) := ⟨_, rfl⟩
          have HT2 : Hid (w2.heap[T]? = some (.cells #[.string (strB y), .slice ax hq cx, .bool false] 51 (0, 0))) := hid (by rw [hw2]; exact obj_setCell (i := 2) HTZ.out (.bool false))
          have HK2 : Hid (Keeps (fun b => b < w.heap.size) w w2) := hid (by rw [hw2]; exact HKZ.out.setCell (p := ⟨T, 2, none⟩) (.inl (by have := HTW.out; simp only; omega)) _)
          have HO2 : Hid (OwnF w.heap.size w2 (.slice ua L uc) out) := hid (by rw [hw2]; exact HOZ.out.keep ((Keeps.refl (fun b => b ≠ T) wz).setCell (p := ⟨T, 2, none⟩) (.inl fun h => h rfl) _) (fun b hb e => HUT.out (by rw [hb, e])))
          rw [← hw2]
          clear hw2 t2 f2 hT HTZ HKZ HOZ
          have t0 := cell_obj (i := 0) HT2.out (v := .string (strB y)) rfl
          have t1 := cell_obj (i := 1) HT2.out (v := .slice ax hq cx) rfl
          have t2 := cell_obj (i := 2) HT2.out (v := .bool false) rfl
          have hT := cell_lt t0
          have HOA : Hid ((w2.alloc (.cells #[.string (strB y), .slice ax hq cx, .bool false] 51 (0, 0))).ownsRow w.heap.size 51 3 (.slice ua L uc) out.length (fileCells out)) := hid (HO2.out.later (Later.alloc w2 (.cells #[.string (strB y), .slice ax hq cx, .bool false] 51 (0, 0))))
          have HWA : Hid (w.heap.size ≤ (w2.alloc (.cells #[.string (strB y), .slice ax hq cx, .bool false] 51 (0, 0))).heap.size) := hid (HK2.out.alloc _).size
          go_wp2_with (at_builtin; refine wpList_append_obj rfl _ _ 44 rfl 51 3 48 Tryd.underlying44 fileElem rfl HOA.out (news := [.string (strB y), .slice ax hq cx, .bool false]) rfl (obj_new w2 _) rfl (fun z hz => by simp only [List.mem_cons, List.not_mem_nil, or_false] at hz; rcases hz with rfl | rfl | rfl <;> rfl) ?c1 ?c2 HWA.out ?_)
          case c1 => have := HOL.out; have := HB.out; have := HLT.out; omega
          case c2 => have := HOL.out; have := HB.out; have := HLT.out; unfold maxLen; omega
          intro v3 w3 hA3
          have HO3 : Hid (OwnF w.heap.size w3 v3 (out ++ [⟨y, .slice ax hq cx, x.data.take (x.data.length / 2), false⟩])) := hid (by
            have h := hA3.own
            unfold OwnF
            have e : fileCells (out ++ [⟨y, .slice ax hq cx, x.data.take (x.data.length / 2), false⟩]) = fileCells out ++ [.string (strB y), .slice ax hq cx, .bool false] := by rw [fileCells_app]; rfl
            rw [List.length_append, e]
            exact h)
          have HK3 : Hid (Keeps (fun b => b < w.heap.size) w w3) := hid ((HK2.out.alloc _).trans ((Keeps.of_grown hA3.grown).mono fun b _ hb e => by have := (ownb HOA.out b e.symm).1; omega))
          clear hA3 t0 t1 t2 hT
          go_wp2_with fail
          try simp only [HW.out]
          refine Round.mk' HR1.out Hmu1.out rfl ?_ ?_
          · refine ⟨i + 1, n + 1, v3, out ++ [⟨y, .slice ax hq cx, x.data.take (x.data.length / 2), false⟩], rfl, congrArg (Value.int .i64) (show wrap64 ((n : Int) + 1) = ((n + 1 : Nat) : Int) by rw [HWN.out.1]; rfl), rfl, HLT.out, by have := HN.out; omega, HO3.out, by rw [List.length_append, List.length_singleton]; have := HOL.out; omega, ?_, HK3.out⟩
            rw [List.append_assoc]
            exact (congrArg (out ++ ·) HNX.out).symm.trans HEQ.out
          · rw [Hh7.out]; have := HLT.out; simp [intOf, slots]; omega
        · have HNX : Hid (crashF W n (l.drop i) = crashF W (n + 1) (l.drop (i + 1))) := hid (by rw [HCR.out, if_neg hnW, if_neg hnE])
          have e1 : ¬ (n : Int) = W := by omega
          have e2 : (W : Int) < n := by omega
          have HK2 := hid (HK.out.alloc (.cells #[.string (strB y), .slice ax q cx, .bool true] 51 (0, 0)))
          have HO2 := hid (OwnF.later HOU.out (Later.alloc wx (.cells #[.string (strB y), .slice ax q cx, .bool true] 51 (0, 0))))
          clear hTe
          go_wp2_with fail
          try simp only [HW.out]
          refine Round.mk' HR1.out Hmu1.out rfl ?_ ?_
          · refine ⟨i + 1, n + 1, _, out, rfl, rfl, rfl, HLT.out, by have := HN.out; omega, HO2.out, by have := HOL.out; omega, ?_, HK2.out⟩
            rw [← HNX.out]; exact HEQ.out
          · rw [Hh7.out]; have := HLT.out; simp [intOf, slots]; omega
  · have hie : i = l.length := by have := HI.out; omega
    have HF : Hid (crashF W 0 l = out) := hid (by rw [← HEQ.out, hie, List.drop_length]; simp [crashF])
    have HLW := hid (later_keep (Later.refl w) HK.out (Nat.le_refl _))
    have hnl : ¬ (i : Int) < l.length := by omega
    clear hie
    go_wp2_with fail
    go_ret
    exact ⟨_, rfl, by rw [HF.out]; exact HOU.out, HLW.out⟩
end Go.Proofs.YtcmpjdnbjhkhdaaDoor
