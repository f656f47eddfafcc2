/-
  PROVED HERE: steps of a store's script that came in, opened by their cells. No program of its own.
  PROVED HERE: streamwrightlaw7.StateMoves returns true, for every script and every cut: the walk.
-/
import Derived.Test.YtgcnchmnciihnaaGreatDoorGShow
import Derived.Test.YtgcnchmnciihnaaGreatDoorGStBack2
import Derived.Lib.SlBytesConst
namespace Go.Proofs.YtgcnchmnciihnaaGreatDoor
set_option linter.unusedSimpArgs false
set_option linter.unusedVariables false
open Go Go.RowKit Go.Deep

section
variable {H : Type} {enc : TypeId × Value → H} {w : World} {base : Nat} {spare : Nat → Bool} {held : Bool}
theorem cell_int7 : Tryz.prog.cellsOf 3 = 1 := by kernel_rfl
theorem cell_bytes7 : Tryz.prog.cellsOf 35 = 1 := by kernel_rfl
theorem cell_win7 : Tryz.prog.cellsOf 34 = 2 := by kernel_rfl
theorem cell_u7 : Tryz.prog.cellsOf 5 = 1 := by kernel_rfl
theorem list_six {α : Type} {l : List α} (h : l.length = 6) {a b e f : α} {r : List α} (h0 : l[0]? = some a) (h1 : l[1]? = some b) (h2 : (l.drop 2).take 2 = r) (h3 : l[4]? = some e) (h4 : l[5]? = some f) : l = a :: b :: (r ++ [e, f]) := by
  match l, h with
  | [x, y, z, u, v, t], _ => simp at h0 h1 h2 h3 h4; simp [h0, h1, ← h2, h3, h4]
theorem win7 {n : Nat} {cs : List Value} {d : DataW H} {pl : List MemPlace} (h : DataW.trod enc Tryz.prog w base spare held n 34 cs = some (d, pl)) (hf : Fits Tryz.prog 34 d) : ∃ x : Win, cs = [.int .i64 x.1, .int .i64 x.2] := by
  obtain ⟨hl, hfs⟩ := open_struct Tryz.underlying34 h hf
  have hl' : cs.length = 2 := hl.trans (by kernel_rfl)
  obtain ⟨n0, d0, p0, t0, _⟩ := hfs 0 _ rfl
  obtain ⟨n1, d1, p1, t1, _⟩ := hfs 1 _ rfl
  obtain ⟨a0, e0, s0⟩ := list_take (i := 0) hl' (by omega)
  obtain ⟨a1, e1, s1⟩ := list_take (i := 1) hl' (by omega)
  change DataW.trod enc Tryz.prog w base spare held n0 2 ((cs.drop 0).take (Tryz.prog.cellsOf 2)) = _ at t0
  rw [cell_i64, s0] at t0
  change DataW.trod enc Tryz.prog w base spare held n1 2 ((cs.drop 1).take (Tryz.prog.cellsOf 2)) = _ at t1
  rw [cell_i64, s1] at t1
  obtain ⟨k, q0, _, w0⟩ := DataW.trod_int Tryz.underlying2 t0
  obtain ⟨i, q1, _, w1⟩ := DataW.trod_int Tryz.underlying2 t1
  simp only [List.cons.injEq, and_true] at q0 q1
  subst q0 q1
  exact ⟨(k, i), list_two hl' e0 e1⟩
theorem op7_cells {n : Nat} {cs : List Value} {d : DataW H} {pl : List MemPlace} (h : DataW.trod enc Tryz.prog w base spare held n 37 cs = some (d, pl)) (hf : Fits Tryz.prog 37 d) :
    ∃ x : OpS, cs = [.int .i64 x.kind, x.kv, .int .i64 x.cell.win.1, .int .i64 x.cell.win.2, x.dv, .int .i64 x.time] ∧ GoodS w x := by
  obtain ⟨hl, hfs⟩ := open_struct Tryz.underlying37 h hf
  have hl' : cs.length = 6 := hl.trans (by kernel_rfl)
  obtain ⟨n0, d0, p0, t0, f0⟩ := hfs 0 _ rfl
  obtain ⟨n1, d1, p1, t1, f1⟩ := hfs 1 _ rfl
  obtain ⟨n2, d2, p2, t2, f2⟩ := hfs 2 _ rfl
  obtain ⟨n3, d3, p3, t3, f3⟩ := hfs 3 _ rfl
  obtain ⟨n4, d4, p4, t4, f4⟩ := hfs 4 _ rfl
  obtain ⟨a0, e0, s0⟩ := list_take (i := 0) hl' (by omega)
  obtain ⟨a1, e1, s1⟩ := list_take (i := 1) hl' (by omega)
  obtain ⟨a4, e4, s4⟩ := list_take (i := 4) hl' (by omega)
  obtain ⟨a5, e5, s5⟩ := list_take (i := 5) hl' (by omega)
  change DataW.trod enc Tryz.prog w base spare held n0 3 ((cs.drop 0).take (Tryz.prog.cellsOf 3)) = _ at t0
  rw [cell_int7, s0] at t0
  change DataW.trod enc Tryz.prog w base spare held n1 32 ((cs.drop 1).take (Tryz.prog.cellsOf 32)) = _ at t1
  rw [cell_vals, s1] at t1
  change DataW.trod enc Tryz.prog w base spare held n2 34 ((cs.drop 2).take (Tryz.prog.cellsOf 34)) = _ at t2
  rw [cell_win7] at t2
  change DataW.trod enc Tryz.prog w base spare held n3 35 ((cs.drop 4).take (Tryz.prog.cellsOf 35)) = _ at t3
  rw [cell_bytes7, s4] at t3
  change DataW.trod enc Tryz.prog w base spare held n4 2 ((cs.drop 5).take (Tryz.prog.cellsOf 2)) = _ at t4
  rw [cell_i64, s5] at t4
  obtain ⟨k, q0, _, w0⟩ := DataW.trod_int Tryz.underlying3 t0
  obtain ⟨kv, key, q1, hk, hok, _⟩ := vals_of t1 f1
  obtain ⟨x, q2⟩ := win7 t2 f2
  obtain ⟨dv, data, q3, hv, hb⟩ := open_bytes Tryz.underlying35 Tryz.underlying5 cell_u7 t3 f3
  obtain ⟨m, q4, _, w4⟩ := DataW.trod_int Tryz.underlying2 t4
  have hb1 : Tryz.prog.bytesOf 5 = 1 := by kernel_rfl
  rw [hb1] at hb
  simp only [List.cons.injEq, and_true] at q0 q1 q3 q4
  subst q0 q1 q3 q4
  refine ⟨⟨k, ⟨key, x, data⟩, m, _, _⟩, list_six hl' e0 e1 q2 e4 e5, hk, hok, hv, ?_⟩
  show data.length ≤ _
  unfold reachBytes at hb; omega
theorem ops7_of {n : Nat} {cs : List Value} {d : DataW H} {pl : List MemPlace} (h : DataW.trod enc Tryz.prog w base spare held n 22 cs = some (d, pl)) (hf : Fits Tryz.prog 22 d) :
    ∃ v l, cs = [v] ∧ IsOpsS w v l ∧ (∀ x ∈ l, GoodS w x) ∧ l.length ≤ 140737488355328 := by
  obtain ⟨v, l, h1, h2, h3, h4⟩ := open_list (At := OpSAt) (Good := GoodS w) (size := 6) Tryz.underlying22 (by kernel_rfl) (by decide) (fun n cs' d pl ht hf _ => by
    obtain ⟨x, rfl, hx⟩ := op7_cells ht hf
    exact ⟨x, hx, fun b o hc => ⟨hc 0 _ rfl, hc 1 _ rfl, hc 2 _ rfl, hc 3 _ rfl, hc 4 _ rfl, hc 5 _ rfl⟩⟩) h hf
  have hb : Tryz.prog.bytesOf 37 = 80 := by kernel_rfl
  rw [hb] at h4
  exact ⟨v, l, h1, h2, h3, by unfold reachBytes at h4; omega⟩
end
end Go.Proofs.YtgcnchmnciihnaaGreatDoor
namespace Go.Proofs.YtgcnchmnciihnaaGreatDoor
set_option linter.unusedSimpArgs false
set_option linter.unusedVariables false
open Go Go.RowKit

/-- a store in the midst of a law: S, M its blocks, made behind w. -/
structure StK (w wx : World) (S M : Nat) (lo hi : Int) (L : List CellP) : Prop where
  st : StAt (fun b => b ≠ S ∧ b ≠ M) wx S M lo hi L
  later : Later w wx
  base : w.heap.size ≤ S ∧ w.heap.size ≤ M
theorem StK.at {w wx wy : World} {S M : Nat} {lo hi : Int} {L : List CellP} (h : StK w wx S M lo hi L) (k : Later wx wy) : StK w wy S M lo hi L := ⟨h.st.later k, Later.trans _ _ _ h.later k, h.base⟩
theorem StK.put {w wx wy : World} {S M : Nat} {lo hi : Int} {L : List CellP} (h : StK w wx S M lo hi L) (k : Keeps (fun b => b ≠ S ∧ b ≠ M) wx wy) {L' : List CellP} (hst : ∀ V' : Nat → Prop, (∀ b, b ≠ S ∧ b ≠ M → b < wx.heap.size → V' b) → (∀ b, wx.heap.size ≤ b → b < wy.heap.size → V' b) → ¬ V' S → ¬ V' M → StAt V' wy S M lo hi L') : StK w wy S M lo hi L' :=
  ⟨hst _ (fun b hb _ => hb) (fun b h1 _ => ⟨by have := h.st.lt; omega, by have := h.st.map.lt; omega⟩) (fun h => h.1 rfl) (fun h => h.2 rfl),
    Keeps.later ((h.later.keeps (fun _ => True)).low (k.mono fun b _ (hb : b < w.heap.size) => by have := h.base; omega)), h.base⟩
def BoolTo (w : World) (b : Bool) (e : Ending) (w' : World) : Prop := e = .returned (.bool b) ∧ Later w w'
def oneC : CellP := ⟨[⟨1, 5, ⟨#[]⟩⟩], (0, 1), [102, 105, 118, 101]⟩
theorem oneC_put : putErr 0 32 [] oneC = 0 := by
  have hg := groupK_lt [⟨1, 5, ⟨#[]⟩⟩]
  refine putErr_0 ?_ ?_
  · have h1 : winOk oneC.win = true := by decide
    have h2 : validR ⟨0, oneC.key⟩ = true := by kernel_rfl
    unfold ownsK
    rw [h1, h2, decide_eq_true (show (0 : Int) ≤ (groupK oneC.key : Int) by omega), decide_eq_true (show (groupK oneC.key : Int) < 32 from by have : groupK oneC.key < 32 := hg; omega)]
    rfl
  · show weightL [oneC] ≤ _
    decide
theorem oneC_ok : ∀ y ∈ oneC.key, ValOk y := fun y hy => by
  obtain rfl := List.mem_singleton.1 hy
  exact ⟨by decide, by decide, by unfold maxLen; decide⟩

theorem putWith_is {V : Nat → Prop} {w w' : World} {S M : Nat} {lo hi : Int} {L : List CellP} {c : CellP} {e : Ending} (h : putErr lo hi L c = 0) (hp : PutWith V w S M lo hi L c e w') : PutOkTo V w S M lo hi (insC c L) e w' := by unfold PutWith at hp; rwa [if_pos h] at hp
theorem loadTo_is {w w' : World} {S : Nat} {lo hi : Int} {r : Int × List CellP} {L : List CellP} {e : Ending} (h : r = (0, L)) (hp : LoadTo w S lo hi r e w') : LoadOkTo w S lo hi L e w' := by subst h; exact hp
theorem PiecesOwn.low {B : Nat} {w w' : World} {v : Value} {l : List (Int × List UInt8)} (h : PiecesOwn B w v l) (k : Keeps (fun b => b < w.heap.size) w w') : PiecesOwn B w' v l :=
  let ⟨xs, h1, h2, h3⟩ := h
  ⟨xs, h1, owns_keep h2 k fun b hb => (ownb h2 b hb).2, h3.keep k fun x hx b hb => (ownb (h3.own x hx) b hb).2⟩
theorem PX.eq_of {xs ys : List PX} (h : ys.map PX.pair = xs.map PX.pair) {i : Nat} (hi : i < xs.length) (hj : i < ys.length) : ys[i].g = xs[i].g ∧ ys[i].bytes = xs[i].bytes := by
  have e : (ys.map PX.pair)[i]'(by rw [List.length_map]; exact hj) = (xs.map PX.pair)[i]'(by rw [List.length_map]; exact hi) := by simp only [h]
  rw [List.getElem_map, List.getElem_map] at e
  unfold PX.pair at e
  simp only [Prod.mk.injEq] at e
  exact e

set_option maxRecDepth 100000 in
set_option maxHeartbeats 8000000 in
theorem moves_walk (v : Value) (l : List OpS) (cut : Int) (w : World) (hv : IsOpsS w v l) (hlen : l.length ≤ 140737488355328) (hgd : ∀ x ∈ l, GoodS w x) (ht : PowTab w) (hg : Laid w) :
    Calls Tryz.prog 4 #[v, .int .i64 cut] w (BoolTo w true) := by
  have HT := hid ht; have HLD := hid hg; have HGD := hid hgd; have HLL := hid hlen
  obtain ⟨pa, pc0, rfl, -, -, -, he⟩ := hv
  have HE := hid he
  clear ht hg hgd he hlen
  go_enter Tryz.func4, Tryz.ntmps4
  go_wp2_with fail
  refine (new_any 0 32 w (by omega)).mono ?_
  rintro e w1 ⟨S, M, rfl, hS, hM, hst, hL1⟩
  have HST1 : Hid (StK w w1 S M 0 32 []) := hid ⟨hst _ (fun h => h.1 rfl) (fun h => h.2 rfl), hL1, hS, hM⟩
  clear hS hM hst hL1
  obtain ⟨cc, hcc⟩ : ∃ cc, cc = if cut < 0 ∨ 32 < cut then 16 else cut := ⟨_, rfl⟩
  have HCC : Hid (0 ≤ cc ∧ cc ≤ 32) := hid (by rw [hcc]; split <;> omega)
  go_upto_region 4 with (fail)
  obtain ⟨dd, hdd⟩ : ∃ dd, dd = decide (cut < 0 ∨ 32 < cut) := ⟨_, rfl⟩
  obtain ⟨R8, hR8⟩ : ∃ RR_ : (Nat → Value) → World → Prop, RR_ = (fun us wx => us 43 = .bool dd ∧ wx = w1) := ⟨_, rfl⟩
  have HR8 := hid hR8; clear hR8
  refine wp_cut_frame' [false, false, false, false, false, false, false, false, false, false, false, false, false, false, false, false, false, false, false, false, false, false, false, false, false, false, false, false, false, false, false, false, false, false, false, false, false, false, true, true, true, true, true, true] R8 _ HR8.out ?_ ?_
  · have HD := hid hdd
    clear hdd hcc
    by_cases c1 : cut < 0
    · have HC : Hid (dd = true) := hid (by rw [HD.out]; exact decide_eq_true (.inl c1))
      go_wp2_with fail
      refine Meet.mk' HR8.out rfl ?_
      exact ⟨by rw [HC.out]; rfl, rfl⟩
    by_cases c2 : 32 < cut
    · have HC : Hid (dd = true) := hid (by rw [HD.out]; exact decide_eq_true (.inr c2))
      go_wp2_with fail
      refine Meet.mk' HR8.out rfl ?_
      exact ⟨by rw [HC.out]; rfl, rfl⟩
    · have HC : Hid (dd = false) := hid (by rw [HD.out]; exact decide_eq_false (by omega))
      go_wp2_with fail
      refine Meet.mk' HR8.out rfl ?_
      exact ⟨by rw [HC.out]; rfl, rfl⟩
  intro us8 wx8 hrel
  obtain ⟨h43, hw⟩ := hrel
  simp only [frameOf, Nat.reduceAdd, h43]
  have Hh43 := hid h43; clear h43
  subst hw
  go_upto_if 43 with (fail)
  obtain ⟨R9, hR9⟩ : ∃ RR_ : (Nat → Value) → World → Prop, RR_ = (fun us wx => us 1 = .int .i64 cc ∧ wx = wx8) := ⟨_, rfl⟩
  have HR9 := hid hR9; clear hR9
  refine wp_cut_frame' [false, true] R9 _ HR9.out ?_ ?_
  · cases hd : dd with
    | true =>
      have HC : Hid (cc = 16) := hid (by rw [hcc, if_pos (of_decide_eq_true (by rw [← hdd]; exact hd))])
      clear hdd hcc
      subst hd
      go_wp2_with fail
      refine Meet.mk' HR9.out rfl ?_
      exact ⟨by rw [HC.out]; rfl, rfl⟩
    | false =>
      have HC : Hid (cc = cut) := hid (by rw [hcc, if_neg (of_decide_eq_false (by rw [← hdd]; exact hd))])
      clear hdd hcc
      subst hd
      go_wp2_with fail
      refine Meet.mk' HR9.out rfl ?_
      exact ⟨by rw [HC.out]; rfl, rfl⟩
  clear hdd
  intro us9 wx hrel
  obtain ⟨h1, hw⟩ := hrel
  simp only [frameOf, Nat.reduceAdd, h1]
  have Hh1 := hid h1; clear h1
  subst hw
  clear hcc
  obtain ⟨w2, hw2⟩ : ∃ W, W = wx.alloc (.cells #[.int .i64 1, .int .i64 5, .string ⟨#[]⟩] 52 (0, 0)) := ⟨_, rfl⟩
  obtain ⟨w3, hw3⟩ : ∃ W, W = w2.alloc (.cells #[.int .u8 102, .int .u8 105, .int .u8 118, .int .u8 101] 5 (4, 5)) := ⟨_, rfl⟩
  have HL3 : Hid (Later wx w3) := hid (by rw [hw3, hw2]; exact Later.trans _ _ _ (Later.alloc _ _) (Later.alloc _ _))
  have HK3 : Hid (IsVals w3 (.slice (some ⟨wx.heap.size, 0, none⟩) 1 1) oneC.key) := hid (by
    have h0 : w3.heap[wx.heap.size]? = some (.cells #[.int .i64 1, .int .i64 5, .string ⟨#[]⟩] 52 (0, 0)) := by rw [hw3]; exact (Later.alloc _ _).obj (by rw [hw2]; exact obj_new _ _)
    refine ⟨some ⟨wx.heap.size, 0, none⟩, 1, rfl, Nat.le_refl _, by unfold maxLen; omega, (fun h => by cases h), fun i hi => ?_⟩
    obtain rfl : i = 0 := by have : i < 1 := hi; omega
    exact ⟨wx.heap.size, 0, rfl, trivial, cell_obj (i := 0) h0 rfl, cell_obj (i := 1) h0 rfl, cell_obj (i := 2) h0 rfl⟩)
  have HD3 : Hid (IsBytes w3 (.slice (some ⟨w2.heap.size, 0, none⟩) 4 4) oneC.data) := hid (by
    have h0 : w3.heap[w2.heap.size]? = some (.cells (byteCells oneC.data).toArray 5 (4, 5)) := by rw [hw3]; exact obj_new _ _
    exact bytes_obj h0 rfl (Nat.le_refl _) (by unfold maxLen; omega) trivial)
  have HS3 := hid (HST1.out.at HL3.out)
  clear HST1
  go_upto_region 7 with (fail)
  rw [← hw2]
  have kc := fun (w : World) (C : Array Value) (n c : Nat) => Lib.run_convert_bytes_const (P := Tryz.prog) w 35 5 C n c Tryz.underlying35 Tryz.underlying5
  have HW3 := hid hw3
  clear hw2 hw3
  go_wp2_with fail
  rw [← HW3.out]
  clear kc HW3
  refine ((put_any oneC (.slice (some ⟨wx.heap.size, 0, none⟩) 1 1) (.slice (some ⟨w2.heap.size, 0, none⟩) 4 4) w3 HS3.out.st HK3.out HD3.out oneC_ok (HT.out.later HS3.out.later) (by decide)).mono fun _ _ => putWith_is oneC_put).mono ?_
  rintro e w4 ⟨rfl, hk4, hst4⟩
  have HS4 := hid (HS3.out.put hk4 hst4)
  clear hk4 hst4 HS3 HK3 HD3 HL3
  go_wp2_with fail
  obtain ⟨R1, hR1⟩ : ∃ RR_ : (Nat → Value) → World → Prop, RR_ = (fun us wx => ∃ (i : Nat) (L : List CellP), us 8 = .int .i64 i ∧ i ≤ l.length ∧ L ≠ [] ∧ StK w wx S M 0 32 L) := ⟨_, rfl⟩
  obtain ⟨mu1, hmu1⟩ : ∃ mu : (Nat → Value) → World → Nat, mu = (fun us _ => l.length - (intOf (us 8)).toNat) := ⟨_, rfl⟩
  have HR1 := hid hR1; have Hmu1 := hid hmu1; clear hR1 hmu1
  refine wp_loop_frame' [false, false, false, false, true, false, false, false, true, true, true, true, false, false, false, false, false, false, false, false, false, false, false, false, false, false, false, false, false, false, false, false, false, false, false, false, false, false, false, false, false, false, false, false, false, false, false, false, false, false, false, false, false, false, true, true, true, true, true, true, true, true, true, true, true, true, true, true, true, true, true, true, true, true, true, true, true, true, true, true] R1 _ mu1 HR1.out ?_ ?_
  · exact ⟨0, _, rfl, Nat.zero_le _, insC_ne _ _, HS4.out⟩
  clear HS4
  intro us1 wy hrel
  obtain ⟨i, L, h8, hi, hne, hst⟩ := hrel
  simp only [frameOf, Nat.reduceAdd, h8]
  have Hh8 := hid h8; clear h8
  have HI := hid hi; have HNE := hid hne; have HS := hid hst
  clear hi hne hst
  by_cases hlt : i < l.length
  · have HLT := hid hlt
    have hEi := HE.out i hlt
    have hgx := HGD.out _ (List.getElem_mem hlt)
    generalize l[i] = x at hEi hgx
    obtain ⟨b, o, hpa, -, q0, q1, q2, q3, q4, q5⟩ := hEi
    subst hpa
    obtain ⟨xk, ⟨key, ⟨f, t⟩, data⟩, xt, kv, dv⟩ := x
    simp only at q0 q1 q2 q3 q4 q5
    have HG := hid hgx
    obtain ⟨ka, kc, hkv, -⟩ := id hgx.key
    obtain ⟨da, dc, hdv, -⟩ := id hgx.data
    simp only at hkv hdv
    subst hkv hdv
    clear hgx
    replace q0 := HS.out.later.cell q0; replace q1 := HS.out.later.cell q1; replace q2 := HS.out.later.cell q2; replace q3 := HS.out.later.cell q3; replace q4 := HS.out.later.cell q4; replace q5 := HS.out.later.cell q5
    obtain ⟨T, hT⟩ : ∃ T, T = wy.heap.size := ⟨_, rfl⟩
    obtain ⟨wz, hwz⟩ : ∃ W, W = wy.alloc (.cells #[.int .i64 xk, .slice ka key.length kc, .int .i64 f, .int .i64 t, .slice da data.length dc, .int .i64 xt] 37 (0, 0)) := ⟨_, rfl⟩
    have HLZ : Hid (Later wy wz) := hid (by rw [hwz]; exact Later.alloc _ _)
    have HOZ : Hid (wz.heap[T]? = some (.cells #[.int .i64 xk, .slice ka key.length kc, .int .i64 f, .int .i64 t, .slice da data.length dc, .int .i64 xt] 37 (0, 0))) := hid (by rw [hwz, hT]; exact obj_new _ _)
    go_upto_region 14 with (fail)
    rw [← hwz, ← hT]
    clear hwz hT q0 q1 q2 q3 q4 q5
    have z1 := cell_obj (i := 1) HOZ.out (v := .slice ka key.length kc) rfl
    have z2 := cell_obj (i := 2) HOZ.out (v := .int .i64 f) rfl
    have z3 := cell_obj (i := 3) HOZ.out (v := .int .i64 t) rfl
    have z4 := cell_obj (i := 4) HOZ.out (v := .slice da data.length dc) rfl
    have HSZ := hid (HS.out.at HLZ.out)
    go_wp2_with fail
    refine (put_any ⟨key, (f, t), data⟩ (.slice ka key.length kc) (.slice da data.length dc) wz HSZ.out.st (HG.out.key.later HSZ.out.later) (HG.out.data.bytes_later HSZ.out.later) HG.out.ok (HT.out.later HSZ.out.later) HG.out.len).mono ?_
    rintro e w5 hp
    clear z1 z2 z3 z4
    unfold PutWith at hp
    have hi2 : (i : Int) + 1 ≤ 9223372036854775807 := by have := HLL.out; omega
    by_cases h0 : putErr 0 32 L ⟨key, (f, t), data⟩ = 0
    · rw [if_pos h0] at hp
      obtain ⟨rfl, hk5, hst5⟩ := hp
      have HS5 := hid (HSZ.out.put hk5 hst5)
      clear hk5 hst5 h0
      go_wp2_with fail
      refine (told_any 0 _ (HLD.out.later HS5.out.later)).mono ?_
      rintro e w6 ⟨rfl, hL6⟩
      have HS6 := hid (HS5.out.at hL6)
      clear hL6
      go_wp2_with fail
      refine Round.mk' HR1.out Hmu1.out rfl ?_ ?_
      · exact ⟨i + 1, _, by show Value.int .i64 ((i : Int) + 1) = _; rw [Int.natCast_add]; rfl, HLT.out, insC_ne _ _, HS6.out⟩
      · show l.length - (intOf (.int .i64 ((i : Int) + 1))).toNat < l.length - (intOf (us1 8)).toNat
        rw [Hh8.out]
        have := HLT.out
        simp only [intOf]
        omega
    · rw [if_neg h0] at hp
      obtain ⟨rfl, hL5⟩ := hp
      have HS5 := hid (HSZ.out.at hL5)
      have HE0 := hid h0
      generalize putErr 0 32 L ⟨key, (f, t), data⟩ = k at *
      have hev : errVal k = .iface 39 (.int .i64 k) := if_neg h0
      rw [← hev]
      clear hL5 h0 hev
      go_wp2_with fail
      refine (told_any k _ (HLD.out.later HS5.out.later)).mono ?_
      rintro e w6 ⟨rfl, hL6⟩
      have HS6 := hid (HS5.out.at hL6)
      have hk0 : (k != 0) = true := by have := HE0.out; simpa using this
      clear hL6
      by_cases h4 : k = 4
      · subst h4
        go_wp2_with fail
        refine Round.mk' HR1.out Hmu1.out rfl ?_ ?_
        · exact ⟨i + 1, _, by show Value.int .i64 ((i : Int) + 1) = _; rw [Int.natCast_add]; rfl, HLT.out, HNE.out, HS6.out⟩
        · show l.length - (intOf (.int .i64 ((i : Int) + 1))).toNat < l.length - (intOf (us1 8)).toNat
          rw [Hh8.out]
          have := HLT.out
          simp only [intOf]
          omega
      · have hk4 : (k != 4) = true := by simpa using h4
        clear h4
        go_wp2_with fail
        go_ret
        exact ⟨rfl, HS6.out.later⟩
  go_wp2_with fail
  refine (save_any wy HS.out.st (HT.out.later HS.out.later)).mono ?_
  rintro e w4 ⟨sv, rfl, hpc, hL4⟩
  have HPC := hid hpc
  obtain ⟨xs, hx1, hx2, hx3⟩ := hpc
  obtain ⟨sa, sc, rfl, -⟩ := own_slice hx2
  have HX1 := hid hx1; have HX2 := hid hx2; have HX3 := hid hx3
  have HF := hid HS.out.st.fine
  have HXL : Hid (xs.length ≤ 32) := hid (by have h1 := congrArg List.length hx1; rw [List.length_map] at h1; have := pieces_len L (lo := 0) (hi := 32) (by omega); omega)
  have HXN : Hid (xs.length ≠ 0) := hid (by have h1 := congrArg List.length hx1; rw [List.length_map] at h1; have := pieces_ne HF.out HNE.out; omega)
  have HXS : Hid (StAt (VB S M w4.heap.size) w4 S M 0 32 L) := hid ((HS.out.st.later hL4).mono (fun b hb hl => ⟨hb.1, hb.2, hl⟩) (fun h => h.1 rfl) (fun h => h.2.1 rfl))
  have HL4 := hid (Later.trans _ _ _ HS.out.later hL4)
  have HB4 := hid (Nat.le_trans HS.out.later.size hL4.size)
  have HSM : Hid (S < w4.heap.size ∧ M < w4.heap.size) := hid ⟨HXS.out.lt, HXS.out.map.lt⟩
  clear hx1 hx2 hx3 hL4 HNE HI hlt
  go_wp2_with fail
  refine (new_any 0 cc w4 (by have := HCC.out; omega)).mono ?_
  rintro e w5 ⟨Sa, Ma, rfl, hSa, hMa, hsta, hL5⟩
  have HSTA := hid (hsta (fun _ => False) (fun h => h) (fun h => h))
  have HSA := hid hSa
  have HL5 := hid hL5
  clear hSa hMa hsta hL5
  go_wp2_with fail
  refine (new_any cc 32 w5 (by have := HCC.out; omega)).mono ?_
  rintro e w6 ⟨Sb, Mb, rfl, hSb, hMb, hstb, hL6⟩
  have HSTB := hid (hstb (fun _ => False) (fun h => h) (fun h => h))
  have HSAB : Hid (Sa < w5.heap.size ∧ w5.heap.size ≤ Sb ∧ Sb < w6.heap.size ∧ w4.heap.size ≤ w5.heap.size ∧ w5.heap.size ≤ w6.heap.size ∧ w5.heap.size ≤ Mb) := hid ⟨HSTA.out.lt, hSb, HSTB.out.lt, HL5.out.size, hL6.size, hMb⟩
  have HL6 := hid hL6
  have HL46 := hid (Later.trans _ _ _ HL5.out hL6)
  clear hSb hMb hstb hL6
  go_wp2_with fail
  refine ((load_any (pieces 0 32 L) (.slice sa xs.length sc) w6 (HSTA.out.later HL6.out) (HPC.out.later HL46.out).in (by have := pieces_len L (lo := 0) (hi := 32) (by omega); omega) (pieces_fine HF.out (by omega)) (HT.out.later (Later.trans _ _ _ HL4.out HL46.out))).mono fun _ _ => loadTo_is (load_pieces HF.out)).mono ?_
  rintro e w7 ⟨rfl, hk7, Ma2, hMa2, hMa3, hst7⟩
  have HST7 : Hid (StAt (fun b => w6.heap.size ≤ b ∧ b ≠ Ma2) w7 Sa Ma2 0 cc (L.filter (inR 0 cc))) := hid (hst7 _ (fun b h1 h2 => ⟨h1, h2⟩) (fun h => by have := HSAB.out; have := h.1; omega) (fun h => h.2 rfl))
  have HK7 : Hid (Keeps (fun b => b < w4.heap.size) w4 w7) := hid ((HL46.out.keeps _).trans (hk7.mono fun b _ hb => by have := HSA.out; omega))
  have HMA2 := hid (And.intro hMa2 hMa3)
  have HSB7 := hid ((HSTB.out).kept hk7 (by have := HSAB.out; omega) (by have := HSAB.out; omega) (fun b hb => hb.elim))
  have HT7 := hid ((Keeps.later ((HL4.out.keeps (fun _ => True)).low (HK7.out.mono fun b _ (hb : b < w.heap.size) => by have := HB4.out; omega))))
  clear hk7 hMa2 hMa3 hst7 HSTB HSTA
  go_wp2_with fail
  refine ((load_any (pieces 0 32 L) (.slice sa xs.length sc) w7 HSB7.out (HPC.out.low HK7.out).in (by have := pieces_len L (lo := 0) (hi := 32) (by omega); omega) (pieces_fine HF.out (by omega)) (HT.out.later HT7.out)).mono fun _ _ => loadTo_is (load_pieces HF.out)).mono ?_
  rintro e w8 ⟨rfl, hk8, Mb2, hMb2, hMb3, hst8⟩
  have HST8 : Hid (StAt (fun b => w7.heap.size ≤ b ∧ b ≠ Mb2) w8 Sb Mb2 cc 32 (L.filter (inR cc 32))) := hid (hst8 _ (fun b h1 h2 => ⟨h1, h2⟩) (fun h => by have := HSAB.out; have := HMA2.out; have := h.1; omega) (fun h => h.2 rfl))
  have HSA8 : Hid (StAt (fun b => w6.heap.size ≤ b ∧ b ≠ Ma2) w8 Sa Ma2 0 cc (L.filter (inR 0 cc))) := hid (HST7.out.kept hk8 (by have := HSAB.out; omega) (by have := HSAB.out; have := HMA2.out; omega) fun b hb _ => by have := HSAB.out; omega)
  have HK8 : Hid (Keeps (fun b => b < w4.heap.size) w4 w8) := hid (HK7.out.trans (hk8.mono fun b _ hb => by have := HSAB.out; omega))
  have HT8 := hid ((Keeps.later ((HL4.out.keeps (fun _ => True)).low (HK8.out.mono fun b _ (hb : b < w.heap.size) => by have := HB4.out; omega))))
  have HX8 := hid (HXS.out.kept HK8.out HSM.out.1 HSM.out.2 fun b hb _ => hb.2.2)
  have HPC8 := hid (HPC.out.low HK8.out)
  have HOX8 := hid (owns_keep HX2.out HK8.out fun b hb => (ownb HX2.out b hb).2)
  have HDX8 := hid (HX3.out.keep HK8.out fun x hx b hb => (ownb (HX3.out.own x hx) b hb).2)
  clear hk8 hMb2 hMb3 hst8 HST7 HSB7 HXS HX2 HX3 HPC
  go_wp2_with fail
  refine (ripe_any 1125899906842624 w8 HSA8.out).mono ?_
  rintro e w9 ⟨rv, rfl, ⟨ks, hks, hok, hheld⟩, hL9⟩
  obtain ⟨ra, rc, rfl, -⟩ := own_slice hok
  have HKS := hid hks; have HOK := hid hok; have HHD := hid hheld; have HL9 := hid hL9
  have HKN : Hid (ks.length ≤ 2097152) := hid (by
    have h1 := congrArg List.length hks
    rw [List.length_map] at h1
    have h2 := List.length_filter_le (fun c : CellP => decide (c.win.2 ≤ 1125899906842624)) (L.filter (inR 0 cc))
    have := HSA8.out.len
    omega)
  have HKG : Hid (∀ x ∈ ks, (groupK x.cell.key : Int) < cc ∧ ∀ y ∈ x.cell.key, ValOk y) := hid fun x hx => by
    have hm : x.cell ∈ ks.map (·.cell) := List.mem_map.2 ⟨x, hx, rfl⟩
    rw [hks] at hm
    have h1 := (List.mem_filter.1 hm).1
    have h2 := (List.mem_filter.1 h1)
    unfold inR at h2
    simp only [Bool.and_eq_true, decide_eq_true_eq] at h2
    exact ⟨h2.2.2, HF.out.ok _ h2.1⟩
  clear hks hok hheld hL9
  go_wp2_with fail
  obtain ⟨R2, hR2⟩ : ∃ RR_ : (Nat → Value) → World → Prop, RR_ = (fun us wx => ∃ n : Nat, us 20 = .int .i64 n ∧ n ≤ ks.length ∧ Later w9 wx) := ⟨_, rfl⟩
  obtain ⟨mu2, hmu2⟩ : ∃ mu : (Nat → Value) → World → Nat, mu = (fun us _ => ks.length - (intOf (us 20)).toNat) := ⟨_, rfl⟩
  have HR2 := hid hR2; have Hmu2 := hid hmu2; clear hR2 hmu2
  refine wp_loop_frame' [false, false, false, false, true, false, false, false, false, false, false, false, false, false, false, false, false, false, false, false, true, true, false, false, false, false, false, false, false, false, false, false, false, false, false, false, false, false, false, false, false, false, false, false, false, false, false, false, false, false, false, false, false, false, false, false, false, false, false, false, false, false, false, false, false, false, false, false, false, false, false, false, false, false, false, false, false, false, false, false, false, false, false, false, false, false, false, false, false, false, false, false, false, false, false, false, false, false, false, false, false, false, false, false, false, false, true, true, true, true, true, true, true, true, true, true, true, true, true, true, true] R2 _ mu2 HR2.out ?_ ?_
  · exact ⟨0, rfl, Nat.zero_le _, Later.refl _⟩
  intro us2 wz hrel
  obtain ⟨n, h20, hn, hL⟩ := hrel
  simp only [frameOf, Nat.reduceAdd, h20]
  have Hh20 := hid h20; clear h20
  have HN := hid hn; have HLZ := hid hL
  clear hn hL
  by_cases hlt2 : n < ks.length
  · have HLT2 := hid hlt2
    obtain ⟨g, rfl, q0, -, -, -⟩ := OwnK.cells HOK.out hlt2
    have hh := HHD.out _ (List.getElem_mem hlt2)
    have hgr := HKG.out _ (List.getElem_mem hlt2)
    generalize ks[n] = x at q0 hh hgr
    have hkv := hh.1.all
    obtain ⟨ka, kc, hkv2, -⟩ := id hh.1
    rw [hkv2] at q0 hkv
    have HKV := hid (hkv.later HLZ.out)
    have HGR := hid hgr
    replace q0 := HLZ.out.cell q0
    clear hh hgr hkv hkv2
    have hn2 : (n : Int) + 1 ≤ 9223372036854775807 := by have := HKN.out; omega
    have hn3 : (n : Int) < ks.length := by omega
    go_wp2_with fail
    refine (rgroup_any x.cell.key _ _ HKV.out HGR.out.2).mono ?_
    rintro e wz2 ⟨rfl, hLz2⟩
    have HLZ2 := hid (Later.trans _ _ _ HLZ.out hLz2)
    have hgc : (groupK x.cell.key : Int) < cc := HGR.out.1
    generalize groupK x.cell.key = gk at *
    clear hLz2 q0 hn2
    go_upto_region 30 with (fail)
    clear hn3
    go_upto_if 120 with (fail)
    have hgd : decide (cc ≤ (gk : Int)) = false := decide_eq_false (by omega)
    have hgd2 : ¬ cc ≤ (gk : Int) := by omega
    clear hgc
    go_upto_region 28 with (fail)
    have hn2 : (n : Int) + 1 ≤ 9223372036854775807 := by have := HKN.out; have := HLT2.out; omega
    go_wp2_with fail
    refine Round.mk' HR2.out Hmu2.out rfl ?_ ?_
    · exact ⟨n + 1, by show Value.int .i64 ((n : Int) + 1) = _; rw [Int.natCast_add]; rfl, HLT2.out, HLZ2.out⟩
    · show ks.length - (intOf (.int .i64 ((n : Int) + 1))).toNat < ks.length - (intOf (us2 20)).toNat
      rw [Hh20.out]
      have := HLT2.out
      simp only [intOf]
      omega
  have HLZW := hid (Later.trans _ _ _ HT8.out (Later.trans _ _ _ HL9.out HLZ.out))
  have HL8Z := hid (Later.trans _ _ _ HL9.out HLZ.out)
  go_wp2_with fail
  refine (save_any wz (HSA8.out.later HL8Z.out) (HT.out.later HLZW.out)).mono ?_
  rintro e w10 ⟨ya, rfl, ⟨als, ha1, ha2, ha3⟩, hL10⟩
  obtain ⟨aa, ac, rfl, -⟩ := own_slice ha2
  have HA1 := hid ha1; have HA2 := hid ha2; have HA3 := hid ha3
  have HL10 := hid (Later.trans _ _ _ HL8Z.out hL10); have HL10W := hid (Later.trans _ _ _ HLZW.out hL10)
  have HZ10 := hid hL10.size
  clear ha1 ha2 ha3 hL10 hlt2
  go_wp2_with fail
  refine (save_any w10 (HST8.out.later HL10.out) (HT.out.later HL10W.out)).mono ?_
  rintro e w11 ⟨yb, rfl, ⟨bls, hb1, hb2, hb3⟩, hL11⟩
  obtain ⟨ba, bc, rfl, -⟩ := own_slice hb2
  have HB1 := hid hb1; have HB2 := hid hb2; have HB3 := hid hb3
  have HA11 := hid (owns_at HA2.out hL11); have HA311 := hid (HA3.out.later hL11)
  have HL11 := hid (Later.trans _ _ _ HL10.out hL11); have HL11W := hid (Later.trans _ _ _ HL10W.out hL11)
  have HZ11 := hid hL11.size
  clear hb1 hb2 hb3 hL11 HA2 HA3
  have HSUM : Hid ((als ++ bls).map PX.pair = xs.map PX.pair) := hid (by rw [List.map_append, HA1.out, HB1.out, HX1.out]; exact pieces_both HCC.out)
  have HASL : Hid ((als ++ bls).length = xs.length) := hid (by have := congrArg List.length HSUM.out; rwa [List.length_map, List.length_map] at this)
  have hall : als.length + bls.length = xs.length := by have := HASL.out; rwa [List.length_append] at this
  have HALL := hid hall
  go_wp2_with (at_builtin; refine wpList_append_pcs rfl _ _ rfl wz.heap.size w10.heap.size _ _ als bls rfl HA11.out rfl HB2.out (by have := HXL.out; omega) (Nat.le_trans HZ10.out HZ11.out) (fun y hy => by obtain ⟨pa, pc, h, -⟩ := own_slice (HB3.out.own y hy); rw [h]; rfl) ?_)
  intro v12 w12 hz1 hk12 hbl12
  have HZ1 := hid hz1
  have HK12 : Hid (Keeps (fun b => b < wz.heap.size) w11 w12) := hid (hk12.mono fun b _ hb e => by have := (ownb HA11.out b e.symm).1; omega)
  have HL12 : Hid (Later w8 w12) := hid (Keeps.later ((HL11.out.keeps (fun _ => True)).low (HK12.out.mono fun b _ (hb : b < w8.heap.size) => by have := HL8Z.out.size; omega)))
  have HL12W : Hid (Later w w12) := hid (Keeps.later ((HL11W.out.keeps (fun _ => True)).low (HK12.out.mono fun b _ (hb : b < w.heap.size) => by have := HLZW.out.size; omega)))
  have HD12 : Hid (∀ x ∈ als ++ bls, IsBytes w12 x.v x.bytes) := hid fun x hx => by
    have hA : ∀ {B : Nat} {v : Value} {m : List UInt8}, w11.ownsRow B 5 1 v m.length (byteCells m) → IsBytes w12 v m := fun h => (owned_bytes (owns_keep h hk12 fun b hb e => own_apart HA11.out h (by decide) b e.symm hb)).all
    rcases List.mem_append.1 hx with h1 | h1
    · exact hA (HA311.out.own x h1)
    · exact hA (HB3.out.own x h1)
  have HDX12 : Hid (∀ x ∈ xs, IsBytes w12 x.v x.bytes) := hid fun x hx => (HDX8.out.bytes x hx).bytes_later HL12.out
  have HOX12 := hid (owns_at HOX8.out HL12.out)
  obtain ⟨za, zc, hzv, -⟩ := own_slice hz1
  subst hzv
  obtain ⟨zs, hzs⟩ : ∃ zs, zs = als ++ bls := ⟨_, rfl⟩
  rw [← hzs] at HZ1 HD12 HSUM HASL ⊢
  have hzl : zs.length = xs.length := HASL.out
  rw [hzl]
  rw [hzl] at HZ1
  have hx0 : ((xs.length : Int) == 0) = false := by have := HXN.out; rw [beq_eq_false_iff_ne]; omega
  have HZL := hid hzl
  clear hz1 hk12 hbl12 hzs hzl hall
  go_wp2_with fail
  obtain ⟨R3, hR3⟩ : ∃ RR_ : (Nat → Value) → World → Prop, RR_ = (fun us wx => ∃ n : Nat, us 24 = .int .i64 n ∧ n ≤ xs.length ∧ Later w12 wx) := ⟨_, rfl⟩
  obtain ⟨mu3, hmu3⟩ : ∃ mu : (Nat → Value) → World → Nat, mu = (fun us _ => xs.length - (intOf (us 24)).toNat) := ⟨_, rfl⟩
  have HR3 := hid hR3; have Hmu3 := hid hmu3; clear hR3 hmu3
  refine wp_loop_frame' [false, false, false, false, true, false, false, false, false, false, false, false, false, false, false, false, false, false, false, false, false, false, false, false, true, false, false, false, false, false, false, false, false, false, false, false, false, false, false, false, false, false, false, false, false, false, false, false, false, false, false, false, false, false, false, false, false, false, false, false, false, false, false, false, false, false, false, false, false, false, false, false, false, false, false, false, false, false, false, false, false, false, false, false, false, false, false, false, false, false, false, false, false, false, false, false, false, false, false, false, false, false, false, false, false, false, false, false, false, false, false, false, false, false, false, false, false, false, false, false, false, false, false, false, false, false, false, false, false, false, false, false, false, false, false, false, false, false, true, true, true, true, true, true, true, true, true, true, true, true, true, true, true, true, true, true, true, true, true, true, true, true, true, true, true, true, true, true, true, true] R3 _ mu3 HR3.out ?_ ?_
  · exact ⟨0, rfl, Nat.zero_le _, Later.refl _⟩
  clear hx0
  intro us3 wt hrel
  obtain ⟨m, h24, hm, hLm⟩ := hrel
  simp only [frameOf, Nat.reduceAdd, h24]
  have Hh24 := hid h24; clear h24
  have HM := hid hm; have HLM := hid hLm
  clear hm hLm
  by_cases hlt3 : m < xs.length
  · have HLT3 := hid hlt3
    have hltz : m < zs.length := by rw [HZL.out]; exact hlt3
    obtain ⟨g, hga, -, q0, q1, -⟩ := OwnPc.cells HOX12.out hlt3
    subst hga
    have hzo : OwnPc wz.heap.size w12 (.slice za zs.length zc) zs := by have := HZ1.out; unfold OwnPc at this ⊢; rw [HZL.out]; rw [HZL.out] at this; exact this
    obtain ⟨g', hga', -, d0, d1, -⟩ := OwnPc.cells hzo hltz
    subst hga'
    obtain ⟨e1, e2⟩ := PX.eq_of HSUM.out hlt3 hltz
    have hb1 := HDX12.out _ (List.getElem_mem hlt3)
    have hb2 := HD12.out _ (List.getElem_mem hltz)
    generalize xs[m] = x at q0 q1 e1 e2 hb1
    generalize zs[m] = z at d0 d1 e1 e2 hb2
    rw [e1] at d0
    rw [e2] at hb2
    obtain ⟨xa, xc, hxv, -⟩ := id hb1
    obtain ⟨ya, yc, hyv, -⟩ := id hb2
    rw [hxv] at q1 hb1
    rw [hyv] at d1 hb2
    have HB1 := hid (hb1.bytes_later HLM.out); have HB2 := hid (hb2.bytes_later HLM.out)
    obtain ⟨xg, hxg⟩ : ∃ xg, xg = x.g := ⟨_, rfl⟩
    obtain ⟨bb, hbb⟩ : ∃ bb, bb = x.bytes := ⟨_, rfl⟩
    rw [← hxg] at q0 d0
    rw [← hbb] at q1 d1 HB1 HB2
    replace q0 := HLM.out.cell q0; replace q1 := HLM.out.cell q1; replace d0 := HLM.out.cell d0; replace d1 := HLM.out.cell d1
    clear hb1 hb2 e1 e2 hxv hyv hxg hbb hzo hltz
    have hm3 : (m : Int) < xs.length := by omega
    go_upto_region 40 with (fail)
    refine wp_region_lex (by kernel_rfl) (by kernel_rfl) Later Later.refl Later.trans (fun _ => none) (fun _ _ _ _ _ h => by cases h) ?_
    simp only [numbered, Nat.reduceAdd]
    refine LexS.out ?_
    iterate 26
      first
      | (refine LexS.skip rfl ?_; simp only [Act.put, List.setIfInBounds_toArray, List.set])
      | (refine LexS.one' rfl rfl ?_
         apply Exists.intro
         refine ⟨fun w hR hF => ?_, ?_⟩
         · have hP := hR
           repeat (first | replace hP := Later.of_drew hP | replace hP := Later.of_drewN hP | replace hP := Later.of_alloc hP)
           have hcs := hR.cells
           have zq0 := hP.cell q0
           have zq1 := hP.cell q1
           have zd0 := hP.cell d0
           have zd1 := hP.cell d1
           have zr0 := ((HB1.out.bytes_later hP).string (dst := 9) Tryz.underlying35 Tryz.underlying5 Tryz.underlying9)
           have zr1 := ((HB2.out.bytes_later hP).string (dst := 9) Tryz.underlying35 Tryz.underlying5 Tryz.underlying9)
           clear hR hF hP
           go_simp
           first | done | rfl
         simp only [Act.put, List.setIfInBounds_toArray, List.set])
    refine LexS.nil ?_
    intro wt1 hR1 hF9
    clear hF9
    repeat (first | replace hR1 := Later.of_drew hR1 | replace hR1 := Later.of_drewN hR1 | replace hR1 := Later.of_alloc hR1)
    have HLM2 := hid (Later.trans _ _ _ HLM.out hR1)
    clear q0 q1 d0 d1 hR1
    have hm2 : (m : Int) + 1 ≤ 9223372036854775807 := by have := HXL.out; have := HLT3.out; omega
    go_wp2_with fail
    refine Round.mk' HR3.out Hmu3.out rfl ?_ ?_
    · exact ⟨m + 1, by show Value.int .i64 ((m : Int) + 1) = _; rw [Int.natCast_add]; rfl, HLT3.out, HLM2.out⟩
    · show xs.length - (intOf (.int .i64 ((m : Int) + 1))).toNat < xs.length - (intOf (us3 24)).toNat
      rw [Hh24.out]
      have := HLT3.out
      simp only [intOf]
      omega
  have HL8T := hid (Later.trans _ _ _ HL12.out HLM.out)
  have HLWT := hid (Later.trans _ _ _ HL12W.out HLM.out)
  have HSPL := hid (split_len HF.out HCC.out)
  have HLA := hid (HSA8.out.later HL8T.out); have HLB := hid (HST8.out.later HL8T.out); have HLX := hid (HX8.out.later HL8T.out)
  go_wp2_with fail
  refine (len_any wt HLA.out).mono ?_
  rintro e w13 ⟨rfl, hw13⟩
  rw [hw13]
  clear hw13 w13 hlt3
  go_wp2_with fail
  refine (len_any wt HLB.out).mono ?_
  rintro e w14 ⟨rfl, hw14⟩
  rw [hw14]
  clear hw14 w14
  go_wp2_with fail
  refine (len_any wt HLX.out).mono ?_
  rintro e w15 ⟨rfl, hw15⟩
  rw [hw15]
  clear hw15 w15
  have hs : ((L.filter (inR 0 cc)).length : Int) + ((L.filter (inR cc 32)).length : Int) = (L.length : Int) := by have := HSPL.out; omega
  have hw : IntKind.i64.wrap (L.length : Int) = L.length := IntWalk.i64_in _ (by have := HX8.out.len; omega)
  obtain ⟨n1, hn1⟩ : ∃ n1 : Int, n1 = ((L.filter (inR 0 cc)).length : Int) := ⟨_, rfl⟩
  obtain ⟨n2, hn2⟩ : ∃ n2 : Int, n2 = ((L.filter (inR cc 32)).length : Int) := ⟨_, rfl⟩
  obtain ⟨n3, hn3⟩ : ∃ n3 : Int, n3 = (L.length : Int) := ⟨_, rfl⟩
  rw [← hn1, ← hn2, ← hn3] at hs
  rw [← hn3] at hw
  rw [← hn1, ← hn2, ← hn3]
  have hw2 : wrap64 n3 = n3 := by have := HX8.out.len; unfold wrap64; omega
  have hs2 : IntKind.i64.wrap (n1 + n2) = n3 := by rw [hs]; exact hw
  have hs3 : wrap64 (n1 + n2) = n3 := by rw [hs]; exact hw2
  clear hs hw hw2 hn1 hn2 hn3
  go_wp2_with fail
  go_ret
  exact ⟨by simp, HLWT.out⟩
end Go.Proofs.YtgcnchmnciihnaaGreatDoor
