/-
  PROVED HERE: the contract of window.Assign.
-/
import Derived.Test.YthfgjmdmcoogpaaWinStarts
import Derived.Shelf.Abstract
namespace Go.Proofs.Ythfgjmdmcoogpaa
set_option linter.unusedSimpArgs false
set_option linter.unusedVariables false
open Go.RowKit

def StartsTo (w : World) (t s p : Int) (e : Ending) (w' : World) : Prop :=
  ∃ Bt Bs Bp : Nat, e = .returned (.func (.func 37) #[] #[.pointer (some ⟨Bt, 0, none⟩), .pointer (some ⟨Bp, 0, none⟩), .pointer (some ⟨Bs, 0, none⟩)]) ∧ Boxed w' Bt 2 (.int .i64 t) ∧ Boxed w' Bs 2 (.int .i64 s) ∧ Boxed w' Bp 2 (.int .i64 p) ∧
    w.heap.size ≤ Bt ∧ w.heap.size ≤ Bs ∧ w.heap.size ≤ Bp ∧ Later w w'
theorem starts_any (t s p : Int) (w : World) : Calls Try.prog 26 #[.int .i64 t, .int .i64 s, .int .i64 p] w (StartsTo w t s p) := by
  have b0 := Boxed.new w 2 (.int .i64 t)
  have b1 := Boxed.new (w.alloc (.cells #[.int .i64 t] 2 (0, 0))) 2 (.int .i64 s)
  have b2 := Boxed.new ((w.alloc (.cells #[.int .i64 t] 2 (0, 0))).alloc (.cells #[.int .i64 s] 2 (0, 0))) 2 (.int .i64 p)
  simp only [World.size_alloc] at b1 b2
  have H0 := hid ((b0.alloc (.cells #[.int .i64 s] 2 (0, 0))).alloc (.cells #[.int .i64 p] 2 (0, 0)))
  have H1 := hid (b1.alloc (.cells #[.int .i64 p] 2 (0, 0)))
  have H2 := hid b2
  clear b0 b1 b2
  go_enter Try.func26, Try.ntmps26
  go_wp2_with fail
  go_ret
  exact ⟨_, _, _, rfl, H0.out, H1.out, H2.out, Nat.le_refl _, by omega, by omega, Later.trans _ _ _ (Later.trans _ _ _ (Later.alloc _ _) (Later.alloc _ _)) (Later.alloc _ _)⟩

theorem owned_new4 {w : World} {B : Nat} (hB : B ≤ w.heap.size) (x y : Int) (e : TypeId) : (w.alloc (.cells #[.int .i64 x, .int .i64 y] e (0, 0))).ownsRow B e 2 (.slice (some ⟨w.heap.size, 0, none⟩) 1 1) [(x, y)].length (winCells [(x, y)]) :=
  ⟨rfl, .inr ⟨w.heap.size, 1, _, rfl, hB, obj_new _ _, Nat.le_refl _, by unfold maxLen; omega, rfl, rfl⟩⟩
def AssignTo (w : World) (l : List Win) (e : Ending) (w' : World) : Prop := ∃ v, e = .returned (.tuple #[v, .nilIface]) ∧ w'.ownsRow w.heap.size 24 2 v l.length (winCells l) ∧ Later w w'
def AssignNo (w : World) (e : Ending) (w' : World) : Prop := e = .returned (.tuple #[.slice none 0 0, .iface 53 (.int .i64 4)]) ∧ Later w w'
set_option maxRecDepth 100000 in
set_option maxHeartbeats 4000000 in
theorem assign_no (k s p t : Int) (w : World) (hs : -9223372036854775808 ≤ s ∧ s ≤ 9223372036854775807) (h : validW k s p = false ∨ t < 0 ∨ 1099511627776 < t) :
    Calls Try.prog 13 #[.agg #[.int .i64 k, .int .i64 s, .int .i64 p], .int .i64 t] w (AssignNo w) := by
  have HS := hid hs; have HH := hid h
  clear hs h
  go_enter Try.func13, Try.ntmps13
  go_wp2_with fail
  refine (wvalid_any k s p _ HS.out).mono ?_
  rintro e w2 ⟨rfl, hL2⟩
  have HL2 := hid (Later.trans _ _ _ (Later.alloc w _) hL2)
  clear hL2
  cases hv : validW k s p with
  | false =>
    go_wp2_with fail
    go_ret2
    exact ⟨rfl, HL2.out⟩
  | true =>
    by_cases h1 : t < 0
    · go_wp2_with fail
      go_ret2
      exact ⟨rfl, HL2.out⟩
    · have h2 : 1099511627776 < t := by rcases HH.out with h | h | h; (rw [hv] at h; cases h); exact absurd h h1; exact h
      go_wp2_with fail
      go_ret2
      exact ⟨rfl, HL2.out⟩
theorem assign_session (s t : Int) (w : World) (hs : 1 ≤ s ∧ s ≤ 1048576) (ht : 0 ≤ t ∧ t ≤ 1099511627776) :
    Calls Try.prog 13 #[.agg #[.int .i64 3, .int .i64 s, .int .i64 0], .int .i64 t] w (AssignTo w [(t, t + s)]) := by
  have hw : wrap64 (t + s) = t + s := wrap64_r (by omega)
  have hv : validW 3 s 0 = true := by unfold validW; rw [if_pos (.inr rfl)]; exact decide_eq_true ⟨hs.1, hs.2, rfl⟩
  have HS := hid hs; have HT := hid ht
  have t1 : ¬ t < 0 := by omega
  have t2 : ¬ 1099511627776 < t := by omega
  have t3 : t ≤ 1099511627776 := by omega
  have t4 : 0 ≤ t := by omega
  clear hs ht
  go_enter Try.func13, Try.ntmps13
  go_wp2_with fail
  refine (wvalid_any 3 s 0 _ (by have := HS.out; omega)).mono ?_
  rintro e w2 ⟨rfl, hL2⟩
  rw [hv]
  have x0 := hL2.cell (cell_obj (i := 0) (obj_new w (.cells #[.int .i64 3, .int .i64 s, .int .i64 0] 31 (0, 0))) rfl)
  have x1 := hL2.cell (cell_obj (i := 1) (obj_new w (.cells #[.int .i64 3, .int .i64 s, .int .i64 0] 31 (0, 0))) rfl)
  have HL2 := hid (Later.trans _ _ _ (Later.alloc w _) hL2)
  clear hL2 hv
  go_wp2_with fail
  go_ret2
  try simp only [hw]
  exact ⟨_, rfl, owned_new4 HL2.out.size _ _ _, Later.trans _ _ _ HL2.out (Later.alloc _ _)⟩
theorem assign_whole (t : Int) (w : World) (ht : 0 ≤ t ∧ t ≤ 1099511627776) :
    Calls Try.prog 13 #[.agg #[.int .i64 4, .int .i64 0, .int .i64 0], .int .i64 t] w (AssignTo w [(0, 1099511627777)]) := by
  have hv : validW 4 0 0 = true := by decide
  have t1 : ¬ t < 0 := by omega
  have t2 : ¬ 1099511627776 < t := by omega
  have t3 : t ≤ 1099511627776 := by omega
  have t4 : 0 ≤ t := by omega
  clear ht
  go_enter Try.func13, Try.ntmps13
  go_wp2_with fail
  refine (wvalid_any 4 0 0 _ (by omega)).mono ?_
  rintro e w2 ⟨rfl, hL2⟩
  rw [hv]
  have x0 := hL2.cell (cell_obj (i := 0) (obj_new w (.cells #[.int .i64 4, .int .i64 0, .int .i64 0] 31 (0, 0))) rfl)
  have HL2 := hid (Later.trans _ _ _ (Later.alloc w _) hL2)
  clear hL2 hv
  go_wp2_with fail
  go_ret2
  exact ⟨_, rfl, owned_new4 HL2.out.size _ _ _, Later.trans _ _ _ HL2.out (Later.alloc _ _)⟩

theorem kp3_trans {x y z : Nat} {A B C : World} (h : Kp3 x y z A B) (k : Kp3 x y z B C) : Kp3 x y z A C := ⟨k.1.trans h.1, k.2.1.trans h.2.1, k.2.2.trans h.2.2⟩
theorem kp3_put {w : World} {x y z : Nat} (hx : x < w.heap.size) (hy : y < w.heap.size) (hz : z < w.heap.size) (W : World) (l : Nat) (o o' : Obj) (hl : w.heap.size ≤ l) (_ : W.heap[l]? = some o) (_ : o.isCells = false) (_ : o.isWalk = false) : Kp3 x y z W (W.putObj l o') :=
  ⟨World.putObj_heap_other (by omega), World.putObj_heap_other (by omega), World.putObj_heap_other (by omega)⟩
def winsOf (s : Int) (l : List Int) : List Win := l.map fun x => (x, wrap64 (x + s))
theorem winsOf_snoc (s : Int) (l : List Int) (x : Int) : winsOf s (l ++ [x]) = winsOf s l ++ [(x, wrap64 (x + s))] := by simp [winsOf]
theorem four_own {β : Type} (X : Nat) (c : Array Value) (tc : TypeId) (x y z : Nat) (ty : TypeId) (a b d : Value) : Own (fun (_ : β) W => W.heap[X]? = some (.cells c tc (0, 0)) ∧ Boxed W x ty a ∧ Boxed W y ty b ∧ Boxed W z ty d) :=
  fun s A B row hs hg hr => ⟨(grownBy_keeps_cells hg hr hs.1 rfl).trans hs.1, boxed_own (β := β) x ty (fun _ => a) s A B row hs.2.1 hg hr, boxed_own (β := β) y ty (fun _ => b) s A B row hs.2.2.1 hg hr, boxed_own (β := β) z ty (fun _ => d) s A B row hs.2.2.2 hg hr⟩

/-- what is no box of the slice, and no row of it, stays behind an append and a store. -/
theorem keep_obj {W w1 : World} {X L : Nat} {c : Array Value} {tc e : TypeId} {base size k : Nat} {v : Value} {xs : List Value} {tmp : Obj} (h : W.heap[X]? = some (.cells c tc (0, 0))) (hte : tc ≠ e) (hrow : W.ownsRow base e size v k xs) (hgrow : (W.alloc tmp).grownBy w1 v.ownBlock) (hXL : X ≠ L) (v' : Value) :
    (w1.setCell ⟨L, 0, none⟩ v').heap[X]? = some (.cells c tc (0, 0)) := by
  have hlt := (Array.getElem?_eq_some_iff.1 h).1
  have hne : some X ≠ v.ownBlock := by
    rcases hrow.2 with ⟨rfl, _⟩ | ⟨g, cap, cur, rfl, _, hgb, _⟩
    · simp [Value.ownBlock]
    · intro e'
      obtain rfl : X = g := by simpa [Value.ownBlock] using e'
      rw [h] at hgb
      simp at hgb
      exact hte hgb.2
  have h1 : w1.heap[X]? = some (.cells c tc (0, 0)) := (hgrow.block X (by simp; omega) hne).trans ((Later.alloc W tmp).obj h)
  exact ((grownBy_setCell' w1 L v').block X (Array.getElem?_eq_some_iff.1 h1).1 (fun e => hXL (by injection e))).trans h1
theorem winsOf_start {s p t : Int} (hs : 1 ≤ s ∧ s ≤ 1048576) (hp : 1 ≤ p ∧ p ≤ s ∧ s / p ≤ 64) (ht : 0 ≤ t ∧ t ≤ 1099511627776) : winsOf s (startL t s p (winJ t s p + 1)) = winL t s p (winJ t s p + 1) := by
  have hj := winJ_le (t := t) (by omega) hp.2.1 hp.2.2
  unfold winsOf startL winL
  rw [List.map_map]
  refine List.map_congr_left fun i hi => ?_
  rw [List.mem_range] at hi
  have := stepA_range (t := t) (p := p) (i := (i : Int) - winJ t s p) (by omega) (by omega) ht.1 ht.2 (by omega) (by omega)
  simp only [Function.comp, winA]
  rw [wrap64_r (by omega)]
attribute [local go_sem] Oper.semAt_some
set_option maxRecDepth 100000 in
set_option maxHeartbeats 8000000 in
theorem assign_step (s p t : Int) (w : World) (hs : 1 ≤ s ∧ s ≤ 1048576) (hp : 1 ≤ p ∧ p ≤ s ∧ s / p ≤ 64) (ht : 0 ≤ t ∧ t ≤ 1099511627776) :
    Calls Try.prog 13 #[.agg #[.int .i64 2, .int .i64 s, .int .i64 p], .int .i64 t] w (AssignTo w (winL t s p (winJ t s p + 1))) := by
  obtain ⟨i0, hi, hz0, hz1, hz2⟩ := info_parts infoWin
  have HI := hid hi; have HZ0 := hid hz0; have HZ1 := hid hz1; have HZ2 := hid hz2; clear hi hz0 hz1 hz2
  have hv : validW 2 s p = true := by unfold validW; rw [if_neg (by omega), if_pos rfl]; exact decide_eq_true ⟨hs.1, hs.2, hp⟩
  have HS := hid hs; have HP := hid hp; have HT := hid ht
  have t1 : ¬ t < 0 := by omega
  have t2 : ¬ 1099511627776 < t := by omega
  have t3 : t ≤ 1099511627776 := by omega
  have t4 : 0 ≤ t := by omega
  clear hs hp ht
  refine (callsIn_wide (n := 3)).1 ?_
  refine callsIn_of_wp_marks Try.func13 rfl trivial ?_ rfl
  simp only [Try.ntmps13, List.size_toArray, List.length_cons, List.length_nil, Nat.reduceAdd, Nat.reduceSub, Array.replicate_succ, Array.replicate_zero, List.push_toArray, List.append_toArray, List.nil_append, List.cons_append]
  refine (wpIn_wide (n := 3)).2 ?_
  go_wp2_with fail
  refine (wvalid_any 2 s p _ (by have := HS.out; omega)).mono ?_
  rintro e w2 ⟨rfl, hL2⟩
  rw [hv]
  have hX2 := hL2.obj (obj_new w (.cells #[.int .i64 2, .int .i64 s, .int .i64 p] 31 (0, 0)))
  have HX2 := hid hX2
  have x0 := cell_obj (i := 0) hX2 (v := .int .i64 2) rfl
  have HL2 := hid (Later.trans _ _ _ (Later.alloc w _) hL2)
  clear hL2 hX2 hv
  go_upto_region 11 with (fail)
  obtain ⟨w3, hw3⟩ : ∃ w3, w3 = w2.alloc (.cells #[.slice none 0 0] 22 (0, 0)) := ⟨_, rfl⟩
  obtain ⟨L, hL⟩ : ∃ L, L = w2.heap.size := ⟨_, rfl⟩
  obtain ⟨X, hX⟩ : ∃ X, X = w.heap.size := ⟨_, rfl⟩
  have hL3 : Later w2 w3 := by rw [hw3]; exact Later.alloc _ _
  have HBL3 : Hid (Boxed w3 L 22 (.slice none 0 0)) := hid (by rw [hw3, hL]; exact Boxed.new _ _ _)
  have HX3 := hid (hL3.obj HX2.out)
  have HLW : Hid (w.heap.size ≤ L) := hid (by rw [hL]; exact HL2.out.size)
  have HL3 := hid (Later.trans _ _ _ HL2.out hL3)
  rw [← hX] at HX3
  rw [← hw3, ← hL, ← hX]
  have HXW := hid hX
  clear hw3 hL hX hL3 x0 HX2 HL2
  have x1 := cell_obj (i := 1) HX3.out (v := .int .i64 s) rfl
  have x2 := cell_obj (i := 2) HX3.out (v := .int .i64 p) rfl
  go_wp2_with fail
  refine (starts_any t s p _).mono ?_
  rintro e w4 ⟨Bt, Bs, Bp, rfl, bt, bs, bp, l1, l2, l3, hL4⟩
  have HBT := hid bt; have HBS := hid bs; have HBP := hid bp
  have HBL := hid (hL4.obj HBL3.out)
  have HX4 := hid (hL4.obj HX3.out)
  have HL4 := hid (Later.trans _ _ _ HL3.out hL4)
  have HNE : Hid (Bt ≠ L ∧ Bs ≠ L ∧ Bp ≠ L ∧ X ≠ L) := hid (by have := HBL3.out.lt; have := (Array.getElem?_eq_some_iff.1 HX3.out).1; have := HLW.out; have := HXW.out; refine ⟨by omega, by omega, by omega, ?_⟩; rintro rfl; have h1 := HBL3.out; unfold Boxed at h1; rw [HX3.out] at h1; cases h1)
  clear x1 x2 bt bs bp l1 l2 l3 hL4 HX3 HL3 HBL3 t1 t2 t3
  go_wp2_with fail
  clear t4
  refine (wpIn_wide (n := 3)).1 ?_
  refine wpIn_rangeFunc_ownF rfl (by decide) (gf := 37) (lb := #[.pointer (some ⟨Bt, 0, none⟩), .pointer (some ⟨Bp, 0, none⟩), .pointer (some ⟨Bs, 0, none⟩)]) rfl trivial (enters_of Try.func37 (by kernel_rfl) rfl)
    (encs := fun x : Int => #[Value.int .i64 x]) (Kp := Kp3 Bt Bp Bs) (S := fun ys => ys = startL t s p (winJ t s p + 1)) (Sp := fun pre => pre <+: startL t s p (winJ t s p + 1)) (N := winJ t s p + 1) (w0 := w4)
    (fun l J Jx W hW hJ hJx hY h0 => starts1_in l (3 - 1) (by decide) Bt Bp Bs t s p HS.out HP.out HT.out J Jx W hJ hY (Later.obj hW HBT.out) (Later.obj hW HBP.out) (Later.obj hW HBS.out) h0)
    kp3_trans (kp3_put HBT.out.lt HBP.out.lt HBS.out.lt) (Below.refl _ _) (fun _ => rfl)
    (fun pre W => (∃ v, Boxed W L 22 v ∧ W.ownsRow w.heap.size 24 2 v (winsOf s pre).length (winCells (winsOf s pre)) ∧ True) ∧ (W.heap[X]? = some (.cells #[.int .i64 2, .int .i64 s, .int .i64 p] 31 (0, 0)) ∧ Boxed W Bt 2 (.int .i64 t) ∧ Boxed W Bp 2 (.int .i64 p) ∧ Boxed W Bs 2 (.int .i64 s)) ∧ Below w.heap.size w W)
    (fun _ _ _ => False)
    (OwnFrom.and (Own.from (holdsRow_own w.heap.size L 22 24 2 (fun pre => (winsOf s pre).length) (fun pre => winCells (winsOf s pre)) (fun _ _ => True)) _) (OwnFrom.and (Own.from (four_own X _ _ Bt Bp Bs _ _ _ _) _) (ownFrom_below (Nat.le_refl _) HL4.out.size)))
    (fun _ _ _ _ _ hs _ _ => hs)
    ⟨⟨_, HBL.out, World.ownsRow_nil _ _ _ _, trivial⟩, ⟨HX4.out, HBT.out, HBP.out, HBS.out⟩, HL4.out⟩
    ?a1 ?assign ?body ?done ?stop
  case assign =>
    intro l x W K hK
    gi_wp2
    exact hK
  case body =>
    rintro l pre x W ⟨⟨v, hv, hrow, -⟩, ⟨hX, bt, bp, bs⟩, hB⟩ hlt
    have hc := hv.cell
    have x1 := cell_obj (i := 1) hX (v := .int .i64 s) rfl
    have HJ64 := hid (winJ_le (t := t) (by have := HP.out; omega) HP.out.2.1 HP.out.2.2)
    have HWL : Hid ((winsOf s pre).length = pre.length) := hid (by simp [winsOf])
    gi_wp2_with (gi_at_builtin; refine wpListIn_append_own _ rfl _ _ 22 rfl w.heap.size 24 i0 (.agg #[.int .i64 0, .int .i64 0]) 2 16 Try.underlying22 HI.out HZ0.out HZ1.out HZ2.out rfl (by decide) _ _ _ rfl (hrow.alloc _) ⟨W.heap.size, 0, none⟩ 1 1 [.int .i64 x, .int .i64 (wrap64 (x + s))] rfl rfl (fun j u hu => by rw [add_none rfl]; exact cell_obj (obj_new _ _) (by simpa using hu)) (win_one (x, wrap64 (x + s))) (by have := HJ64.out; have := HWL.out; unfold maxLen; omega) (by have := HJ64.out; have := HWL.out; omega) (by have := hB.size; simp; omega) ?_; intro v' w1 hown' hgrow _; obtain ⟨g', cap', rfl⟩ := ownsRow_succ hown'; obtain ⟨hv1, hv2, hr2, hk2, hb2⟩ := hv.appended (by decide) hrow hB.size HLW.out hown' hgrow; have hc1 := hv1.cell; have hf1 := hv1.frozen)
    have hX9 := keep_obj hX (by decide) hrow hgrow HNE.out.2.2.2 (.slice (some ⟨g', 0, none⟩) ((winsOf s pre).length + 1) cap')
    have bt9 := keep_obj bt (by decide) hrow hgrow HNE.out.1 (.slice (some ⟨g', 0, none⟩) ((winsOf s pre).length + 1) cap')
    have bp9 := keep_obj bp (by decide) hrow hgrow HNE.out.2.2.1 (.slice (some ⟨g', 0, none⟩) ((winsOf s pre).length + 1) cap')
    have bs9 := keep_obj bs (by decide) hrow hgrow HNE.out.2.1 (.slice (some ⟨g', 0, none⟩) ((winsOf s pre).length + 1) cap')
    refine ⟨hk2, ⟨bt9.trans bt.symm, bp9.trans bp.symm, bs9.trans bs.symm⟩, ⟨_, hv2, ?_, trivial⟩, ⟨hX9, bt9, bp9, bs9⟩, hB.trans hb2⟩
    rw [winsOf_snoc, winCells_snoc, List.length_append]
    exact hr2
  case done =>
    rintro D ys W hD rfl ⟨⟨v, hv, hrow, -⟩, ⟨hX, bt, bp, bs⟩, hB⟩ hK
    have hc := hv.cell
    have hrow2 := ownsRow_putObj hrow (.deferred none) hK rfl
    have HB9 := hid (hB.trans (belowK_b (w := w) (Nat.le_refl _) W D _ (.deferred none) (by have := HL4.out.size; omega) hK rfl rfl))
    rw [winsOf_start HS.out HP.out HT.out] at hrow2
    have HR2 := hid hrow2
    clear hrow hrow2
    go_wp2_with fail
    refine ⟨by simp, .inl ⟨_, _, rfl, run_takeDeferred hK, ?_⟩⟩
    exact ⟨_, results_tmp2 rfl _ _ _, v, rfl, HR2.out, HB9.out⟩
  case stop =>
    rintro D c pre W _ _ h _
    exact h.elim
set_option maxRecDepth 100000 in
set_option maxHeartbeats 8000000 in
theorem assign_tumble (p t : Int) (w : World) (hs : 1 ≤ p ∧ p ≤ 1048576) (ht : 0 ≤ t ∧ t ≤ 1099511627776) :
    Calls Try.prog 13 #[.agg #[.int .i64 1, .int .i64 p, .int .i64 0], .int .i64 t] w (AssignTo w (winL t p p (winJ t p p + 1))) := by
  obtain ⟨i0, hi, hz0, hz1, hz2⟩ := info_parts infoWin
  have HI := hid hi; have HZ0 := hid hz0; have HZ1 := hid hz1; have HZ2 := hid hz2; clear hi hz0 hz1 hz2
  have hp : 1 ≤ p ∧ p ≤ p ∧ p / p ≤ 64 := ⟨hs.1, Int.le_refl _, by rw [Int.ediv_self (by omega)]; decide⟩
  have hv : validW 1 p 0 = true := by unfold validW; rw [if_pos (.inl rfl)]; exact decide_eq_true ⟨hs.1, hs.2, rfl⟩
  have HS := hid hs; have HP := hid hp; have HT := hid ht
  have t1 : ¬ t < 0 := by omega
  have t2 : ¬ 1099511627776 < t := by omega
  have t3 : t ≤ 1099511627776 := by omega
  have t4 : 0 ≤ t := by omega
  clear hs hp ht
  refine (callsIn_wide (n := 3)).1 ?_
  refine callsIn_of_wp_marks Try.func13 rfl trivial ?_ rfl
  simp only [Try.ntmps13, List.size_toArray, List.length_cons, List.length_nil, Nat.reduceAdd, Nat.reduceSub, Array.replicate_succ, Array.replicate_zero, List.push_toArray, List.append_toArray, List.nil_append, List.cons_append]
  refine (wpIn_wide (n := 3)).2 ?_
  go_wp2_with fail
  refine (wvalid_any 1 p 0 _ (by have := HS.out; omega)).mono ?_
  rintro e w2 ⟨rfl, hL2⟩
  rw [hv]
  have hX2 := hL2.obj (obj_new w (.cells #[.int .i64 1, .int .i64 p, .int .i64 0] 31 (0, 0)))
  have x0 := cell_obj (i := 0) hX2 (v := .int .i64 1) rfl
  have x1 := cell_obj (i := 1) hX2 (v := .int .i64 p) rfl
  have x2 := cell_obj (i := 2) hX2 (v := .int .i64 0) rfl
  have z2 := free_obj (i := 2) hX2
  have hL2' := Later.trans _ _ _ (Later.alloc w _) hL2
  have HX2' := hid (obj_setCell (i := 2) hX2 (.int .i64 p))
  simp only [List.setIfInBounds_toArray, List.set] at HX2'
  have HL2' : Hid (Later w (w2.setCell ⟨w.heap.size, 2, none⟩ (.int .i64 p))) := hid (((hL2'.keeps (fun _ => True)).setCell (p := ⟨w.heap.size, 2, none⟩) (.inr (Nat.le_refl _)) _).later)
  clear hL2 hL2' hX2 hv
  go_upto_region 10 with (fail)
  clear x0 x1 x2 z2
  obtain ⟨w2', hw2'⟩ : ∃ w2', w2' = w2.setCell ⟨w.heap.size, 2, none⟩ (.int .i64 p) := ⟨_, rfl⟩
  rw [← hw2'] at HX2' HL2' ⊢
  clear hw2'
  have HX2 := HX2'
  have HL2 := HL2'
  clear HX2' HL2'
  have x0 := cell_obj (i := 0) HX2.out (v := .int .i64 1) rfl
  go_upto_region 11 with (fail)
  obtain ⟨w3, hw3⟩ : ∃ w3, w3 = w2'.alloc (.cells #[.slice none 0 0] 22 (0, 0)) := ⟨_, rfl⟩
  obtain ⟨L, hL⟩ : ∃ L, L = w2'.heap.size := ⟨_, rfl⟩
  obtain ⟨X, hX⟩ : ∃ X, X = w.heap.size := ⟨_, rfl⟩
  have hL3 : Later w2' w3 := by rw [hw3]; exact Later.alloc _ _
  have HBL3 : Hid (Boxed w3 L 22 (.slice none 0 0)) := hid (by rw [hw3, hL]; exact Boxed.new _ _ _)
  have HX3 := hid (hL3.obj HX2.out)
  have HLW : Hid (w.heap.size ≤ L) := hid (by rw [hL]; exact HL2.out.size)
  have HL3 := hid (Later.trans _ _ _ HL2.out hL3)
  rw [← hX] at HX3
  rw [← hw3, ← hL, ← hX]
  have HXW := hid hX
  clear hw3 hL hX hL3 x0 HX2 HL2
  have x1 := cell_obj (i := 1) HX3.out (v := .int .i64 p) rfl
  have x2 := cell_obj (i := 2) HX3.out (v := .int .i64 p) rfl
  go_wp2_with fail
  refine (starts_any t p p _).mono ?_
  rintro e w4 ⟨Bt, Bs, Bp, rfl, bt, bs, bp, l1, l2, l3, hL4⟩
  have HBT := hid bt; have HBS := hid bs; have HBP := hid bp
  have HBL := hid (hL4.obj HBL3.out)
  have HX4 := hid (hL4.obj HX3.out)
  have HL4 := hid (Later.trans _ _ _ HL3.out hL4)
  have HNE : Hid (Bt ≠ L ∧ Bs ≠ L ∧ Bp ≠ L ∧ X ≠ L) := hid (by have := HBL3.out.lt; have := (Array.getElem?_eq_some_iff.1 HX3.out).1; have := HLW.out; have := HXW.out; refine ⟨by omega, by omega, by omega, ?_⟩; rintro rfl; have h1 := HBL3.out; unfold Boxed at h1; rw [HX3.out] at h1; cases h1)
  clear x1 x2 bt bs bp l1 l2 l3 hL4 HX3 HL3 HBL3 t1 t2 t3
  go_wp2_with fail
  clear t4
  refine (wpIn_wide (n := 3)).1 ?_
  refine wpIn_rangeFunc_ownF rfl (by decide) (gf := 37) (lb := #[.pointer (some ⟨Bt, 0, none⟩), .pointer (some ⟨Bp, 0, none⟩), .pointer (some ⟨Bs, 0, none⟩)]) rfl trivial (enters_of Try.func37 (by kernel_rfl) rfl)
    (encs := fun x : Int => #[Value.int .i64 x]) (Kp := Kp3 Bt Bp Bs) (S := fun ys => ys = startL t p p (winJ t p p + 1)) (Sp := fun pre => pre <+: startL t p p (winJ t p p + 1)) (N := winJ t p p + 1) (w0 := w4)
    (fun l J Jx W hW hJ hJx hY h0 => starts1_in l (3 - 1) (by decide) Bt Bp Bs t p p HS.out HP.out HT.out J Jx W hJ hY (Later.obj hW HBT.out) (Later.obj hW HBP.out) (Later.obj hW HBS.out) h0)
    kp3_trans (kp3_put HBT.out.lt HBP.out.lt HBS.out.lt) (Below.refl _ _) (fun _ => rfl)
    (fun pre W => (∃ v, Boxed W L 22 v ∧ W.ownsRow w.heap.size 24 2 v (winsOf p pre).length (winCells (winsOf p pre)) ∧ True) ∧ (W.heap[X]? = some (.cells #[.int .i64 1, .int .i64 p, .int .i64 p] 31 (0, 0)) ∧ Boxed W Bt 2 (.int .i64 t) ∧ Boxed W Bp 2 (.int .i64 p) ∧ Boxed W Bs 2 (.int .i64 p)) ∧ Below w.heap.size w W)
    (fun _ _ _ => False)
    (OwnFrom.and (Own.from (holdsRow_own w.heap.size L 22 24 2 (fun pre => (winsOf p pre).length) (fun pre => winCells (winsOf p pre)) (fun _ _ => True)) _) (OwnFrom.and (Own.from (four_own X _ _ Bt Bp Bs _ _ _ _) _) (ownFrom_below (Nat.le_refl _) HL4.out.size)))
    (fun _ _ _ _ _ hs _ _ => hs)
    ⟨⟨_, HBL.out, World.ownsRow_nil _ _ _ _, trivial⟩, ⟨HX4.out, HBT.out, HBP.out, HBS.out⟩, HL4.out⟩
    ?a1 ?assign ?body ?done ?stop
  case assign =>
    intro l x W K hK
    gi_wp2
    exact hK
  case body =>
    rintro l pre x W ⟨⟨v, hv, hrow, -⟩, ⟨hX, bt, bp, bs⟩, hB⟩ hlt
    have hc := hv.cell
    have x1 := cell_obj (i := 1) hX (v := .int .i64 p) rfl
    have HJ64 := hid (winJ_le (t := t) (by have := HP.out; omega) HP.out.2.1 HP.out.2.2)
    have HWL : Hid ((winsOf p pre).length = pre.length) := hid (by simp [winsOf])
    gi_wp2_with (gi_at_builtin; refine wpListIn_append_own _ rfl _ _ 22 rfl w.heap.size 24 i0 (.agg #[.int .i64 0, .int .i64 0]) 2 16 Try.underlying22 HI.out HZ0.out HZ1.out HZ2.out rfl (by decide) _ _ _ rfl (hrow.alloc _) ⟨W.heap.size, 0, none⟩ 1 1 [.int .i64 x, .int .i64 (wrap64 (x + p))] rfl rfl (fun j u hu => by rw [add_none rfl]; exact cell_obj (obj_new _ _) (by simpa using hu)) (win_one (x, wrap64 (x + p))) (by have := HJ64.out; have := HWL.out; unfold maxLen; omega) (by have := HJ64.out; have := HWL.out; omega) (by have := hB.size; simp; omega) ?_; intro v' w1 hown' hgrow _; obtain ⟨g', cap', rfl⟩ := ownsRow_succ hown'; obtain ⟨hv1, hv2, hr2, hk2, hb2⟩ := hv.appended (by decide) hrow hB.size HLW.out hown' hgrow; have hc1 := hv1.cell; have hf1 := hv1.frozen)
    have hX9 := keep_obj hX (by decide) hrow hgrow HNE.out.2.2.2 (.slice (some ⟨g', 0, none⟩) ((winsOf p pre).length + 1) cap')
    have bt9 := keep_obj bt (by decide) hrow hgrow HNE.out.1 (.slice (some ⟨g', 0, none⟩) ((winsOf p pre).length + 1) cap')
    have bp9 := keep_obj bp (by decide) hrow hgrow HNE.out.2.2.1 (.slice (some ⟨g', 0, none⟩) ((winsOf p pre).length + 1) cap')
    have bs9 := keep_obj bs (by decide) hrow hgrow HNE.out.2.1 (.slice (some ⟨g', 0, none⟩) ((winsOf p pre).length + 1) cap')
    refine ⟨hk2, ⟨bt9.trans bt.symm, bp9.trans bp.symm, bs9.trans bs.symm⟩, ⟨_, hv2, ?_, trivial⟩, ⟨hX9, bt9, bp9, bs9⟩, hB.trans hb2⟩
    rw [winsOf_snoc, winCells_snoc, List.length_append]
    exact hr2
  case done =>
    rintro D ys W hD rfl ⟨⟨v, hv, hrow, -⟩, ⟨hX, bt, bp, bs⟩, hB⟩ hK
    have hc := hv.cell
    have hrow2 := ownsRow_putObj hrow (.deferred none) hK rfl
    have HB9 := hid (hB.trans (belowK_b (w := w) (Nat.le_refl _) W D _ (.deferred none) (by have := HL4.out.size; omega) hK rfl rfl))
    rw [winsOf_start HS.out HP.out HT.out] at hrow2
    have HR2 := hid hrow2
    clear hrow hrow2
    go_wp2_with fail
    refine ⟨by simp, .inl ⟨_, _, rfl, run_takeDeferred hK, ?_⟩⟩
    exact ⟨_, results_tmp2 rfl _ _ _, v, rfl, HR2.out, HB9.out⟩
  case stop =>
    rintro D c pre W _ _ h _
    exact h.elim

theorem assign_any (k s p t : Int) (w : World) (hv : validW k s p = true) (ht : 0 ≤ t ∧ t ≤ 1099511627776) :
    Calls Try.prog 13 #[.agg #[.int .i64 k, .int .i64 s, .int .i64 p], .int .i64 t] w (AssignTo w (assignW k s p t)) := by
  unfold validW at hv
  by_cases k1 : k = 1
  · subst k1
    rw [if_pos (.inl rfl)] at hv
    have hv := of_decide_eq_true hv
    obtain ⟨h1, h2, rfl⟩ := hv
    exact assign_tumble s t w ⟨h1, h2⟩ ht
  · by_cases k3 : k = 3
    · subst k3
      rw [if_pos (.inr rfl)] at hv
      have hv := of_decide_eq_true hv
      obtain ⟨h1, h2, rfl⟩ := hv
      exact assign_session s t w ⟨h1, h2⟩ ht
    · rw [if_neg (by omega)] at hv
      by_cases k2 : k = 2
      · subst k2
        rw [if_pos rfl] at hv
        have hv := of_decide_eq_true hv
        exact assign_step s p t w ⟨hv.1, hv.2.1⟩ hv.2.2 ht
      · rw [if_neg k2] at hv
        by_cases k4 : k = 4
        · subst k4
          rw [if_pos rfl] at hv
          have hv := of_decide_eq_true hv
          obtain ⟨rfl, rfl⟩ := hv
          exact assign_whole t w ht
        · rw [if_neg k4] at hv; cases hv
end Go.Proofs.Ythfgjmdmcoogpaa
