/-
  PROVED HERE: the contract of agg.Fold.
-/
import Derived.Test.YtcmpjdnbjhkhdaaDoorAggMade
import Derived.Test.YtcmpjdnbjhkhdaaDoorValid
import Derived.Handy
namespace Go.Proofs.YtcmpjdnbjhkhdaaDoor
set_option linter.unusedSimpArgs false
set_option linter.unusedVariables false
open Go.RowKit

/-- at offset 'o' of block 'b' stands the value 't' with its time. -/
def TimedAt (w : World) (b o : Nat) (t : TV) : Prop := w.cell? ⟨b, o, none⟩ = some (.int .i64 t.time) ∧ ValAt w b (o + 1) t.val
theorem TimedAt.later {w w' : World} {b o : Nat} {x : TV} (h : TimedAt w b o x) (k : Later w w') : TimedAt w' b o x := ⟨k.cell h.1, h.2.later k⟩
theorem TimedAt.kept {S : Nat → Prop} {w w' : World} {b o : Nat} {x : TV} (h : TimedAt w b o x) (hs : S b) (k : Keeps S w w') : TimedAt w' b o x := ⟨k.cell hs h.1, h.2.kept hs k⟩
abbrev TimedsIn (S : Nat → Prop) (w : World) (v : Value) (l : List TV) : Prop := SliceOf S TimedAt 4 w v l
abbrev IsTimeds (w : World) (v : Value) (l : List TV) : Prop := TimedsIn All w v l
theorem TimedAt.lt {w : World} {b o : Nat} {t : TV} (h : TimedAt w b o t) : b < w.heap.size := cell_lt h.1
theorem IsTimeds.lt {w : World} {v : Value} {l : List TV} (h : IsTimeds w v l) : TimedsIn (fun b => b < w.heap.size) w v l := h.map fun _ _ _ _ hx => ⟨hx.lt, hx⟩
theorem IsTimeds.later {w w' : World} {v : Value} {l : List TV} (h : IsTimeds w v l) (k : Later w w') : IsTimeds w' v l := h.map fun _ _ _ hb hx => ⟨hb, hx.later k⟩

def AccAdd (kind : Int) (B : Nat) (v : Value) (l : List TV) (w : World) (e : Ending) (w' : World) : Prop := e = .returned (.tuple #[]) ∧ AccAt kind B w' v l ∧ Keeps (fun b => b < B) w w'
theorem wrap_snoc (l : List TV) (t : TV) : wrap64 ((l ++ [t]).length : Int) = wrap64 (wrap64 l.length + 1) := by
  simp only [List.length_append, List.length_cons, List.length_nil]
  unfold wrap64
  omega
theorem keeps_low {A B : Nat} {w w' : World} (k : Keeps (fun b => b ≠ A) w w') (h : B ≤ A) : Keeps (fun b => b < B) w w' := k.mono fun b _ hb => by omega
theorem acc_cnt {kind : Int} {B A : Nat} {l : List TV} {w : World} (hk : kind = 1) (hB : B ≤ A) (h : CntAt w A (wrap64 l.length)) (t : TV) :
    Calls Tryd.prog 208 #[.pointer (some ⟨A, 0, none⟩), t.v] w (AccAdd kind B (.iface 157 (.pointer (some ⟨A, 0, none⟩))) (l ++ [t]) w) :=
  (cnt_add A _ t w h).mono fun e w' ⟨h1, h2, h3⟩ => ⟨h1, .inl ⟨hk, A, hB, rfl, by rw [wrap_snoc]; exact h2⟩, keeps_low h3 hB⟩
theorem acc_sum {kind : Int} {B A : Nat} {l : List TV} {w : World} (hk : kind = 2) (hB : B ≤ A) (h : SumAt w A (l.foldl sumP (0, 0))) (t : TV) :
    Calls Tryd.prog 214 #[.pointer (some ⟨A, 0, none⟩), t.v] w (AccAdd kind B (.iface 160 (.pointer (some ⟨A, 0, none⟩))) (l ++ [t]) w) :=
  (sum_add A _ t w h).mono fun e w' ⟨h1, h2, h3⟩ => ⟨h1, .inr (.inl ⟨hk, A, hB, rfl, by rw [List.foldl_append]; exact h2⟩), keeps_low h3 hB⟩
theorem acc_set {kind : Int} {B A : Nat} {u : Value} {l : List TV} {w : World} (hk : kind = 7) (hB : B ≤ A) (h : SetAt w A B u (setOf l)) (t : TV) (hlen : (l.length + 1) * 32 ≤ 140737488355328) (hBw : B ≤ w.heap.size) :
    Calls Tryd.prog 219 #[.pointer (some ⟨A, 0, none⟩), t.v] w (AccAdd kind B (.iface 165 (.pointer (some ⟨A, 0, none⟩))) (l ++ [t]) w) :=
  (set_add A B u _ t w h (setOf_sorted l) (by have := setOf_len l; omega) hBw).mono fun e w' ⟨h1, v', h2, h3, h4⟩ =>
    ⟨h1, .inr (.inr (.inl ⟨hk, A, v', hB, rfl, by rw [setOf_snoc]; exact h2⟩)), h3.mono fun b _ hb => ⟨by omega, fun e => by have := (ownb h.own b e.symm).1; omega⟩⟩
theorem before_val {kind sg : Int} (hk : kind = 3 ∧ sg = 1 ∨ kind = 4 ∧ sg = -1) : beforeP kind = fun a b => decide (byValue a b * sg < 0) := by
  funext a b
  unfold beforeP
  rcases hk with ⟨rfl, rfl⟩ | ⟨rfl, rfl⟩ <;> simp
theorem before_time {kind sg : Int} (hk : kind = 5 ∧ sg = 1 ∨ kind = 6 ∧ sg = -1) : beforeP kind = fun a b => decide (byTime a b * sg < 0) := by
  funext a b
  unfold beforeP
  rcases hk with ⟨rfl, rfl⟩ | ⟨rfl, rfl⟩ <;> simp
theorem acc_chv {kind sg : Int} {B A Bo Bs : Nat} {l : List TV} {w : World} (hk : kind = 3 ∧ sg = 1 ∨ kind = 4 ∧ sg = -1) (hB : B ≤ A ∧ B ≤ Bo ∧ B ≤ Bs) (h : ChAt 82 sg w A Bo Bs (l.foldl (chooseP (beforeP kind)) nilTV)) (t : TV) :
    Calls Tryd.prog 243 #[.pointer (some ⟨A, 0, none⟩), t.v] w (AccAdd kind B (.iface 202 (.pointer (some ⟨A, 0, none⟩))) (l ++ [t]) w) :=
  (ch_add_val sg (by rcases hk with ⟨-, h⟩ | ⟨-, h⟩; exact .inl h; exact .inr h) A Bo Bs _ t w h).mono fun e w' ⟨h1, h2, h3⟩ =>
    ⟨h1, .inr (.inr (.inr (.inl ⟨sg, hk, A, Bo, Bs, hB, rfl, by rw [List.foldl_append]; rw [← before_val hk] at h2; exact h2⟩))), keeps_low h3 hB.1⟩
theorem acc_cht {kind sg : Int} {B A Bo Bs : Nat} {l : List TV} {w : World} (hk : kind = 5 ∧ sg = 1 ∨ kind = 6 ∧ sg = -1) (hB : B ≤ A ∧ B ≤ Bo ∧ B ≤ Bs) (h : ChAt 83 sg w A Bo Bs (l.foldl (chooseP (beforeP kind)) nilTV)) (t : TV) :
    Calls Tryd.prog 243 #[.pointer (some ⟨A, 0, none⟩), t.v] w (AccAdd kind B (.iface 202 (.pointer (some ⟨A, 0, none⟩))) (l ++ [t]) w) :=
  (ch_add_time sg (by rcases hk with ⟨-, h⟩ | ⟨-, h⟩; exact .inl h; exact .inr h) A Bo Bs _ t w h).mono fun e w' ⟨h1, h2, h3⟩ =>
    ⟨h1, .inr (.inr (.inr (.inr ⟨sg, hk, A, Bo, Bs, hB, rfl, by rw [List.foldl_append]; rw [← before_time hk] at h2; exact h2⟩))), keeps_low h3 hB.1⟩
theorem val_cnt (l : List TV) (h : l.length ≤ 140737488355328) : intV (wrap64 l.length) = foldV 1 l := by
  have : wrap64 (l.length : Int) = l.length := by unfold wrap64; omega
  rw [this]
  rfl
theorem val_sum (l : List TV) : sumV (l.foldl sumP (0, 0)) = foldV 2 l := rfl
theorem val_set (l : List TV) : intV (setOf l).length = foldV 7 l := rfl
theorem val_ch {kind : Int} (h : 3 ≤ kind ∧ kind ≤ 6) (l : List TV) : (l.foldl (chooseP (beforeP kind)) nilTV).val = foldV kind l := by
  unfold foldV
  rw [if_neg (by omega), if_neg (by omega), if_neg (by omega)]
def okT (l : List TV) : Bool := l.all fun t => validV t.val
def FoldTo (kind : Int) (l : List TV) (w : World) (e : Ending) (w' : World) : Prop :=
  Later w w' ∧ e = .returned (if (1 ≤ kind ∧ kind ≤ 7) ∧ okT l = true then .tuple #[(foldV kind l).v, .nilIface] else .tuple #[nilV.v, rangeE])
def foldS (n : Int) : List Value := [.int .i64 n]
set_option maxRecDepth 100000 in
set_option maxHeartbeats 4000000 in
theorem fold_bad (kind : Int) (l : List TV) (v : Value) (w : World) (hk : ¬ (1 ≤ kind ∧ kind ≤ 7)) : Calls Tryd.prog 10 #[.int .i64 kind, v] w (FoldTo kind l w) := by
  have HK := hid hk
  clear hk
  go_enter Tryd.func10, Tryd.ntmps10
  go_wp2_with fail
  refine (new_bad kind HK.out _).mono ?_
  rintro e w1 ⟨rfl, hL1⟩
  have HP := hid (hL1.obj (obj_new w _))
  have HL1 := hid (Later.trans _ _ _ (Later.alloc _ _) hL1)
  have p0 := cell_obj (i := 0) HP.out rfl
  have p1 := cell_obj (i := 1) HP.out rfl
  have p2 := cell_obj (i := 2) HP.out rfl
  have f0 := free_obj (i := 0) HP.out
  have f1 := free_obj (i := 1) HP.out
  have f2 := free_obj (i := 2) HP.out
  have hl := cell_lt p0
  clear hL1
  unfold rangeE
  go_wp2_with fail
  clear p0 p1 p2 f0 f1 f2
  obtain ⟨wf, hwf⟩ : ∃ wf, wf = put3 w1 w.heap.size nilV := ⟨_, rfl⟩
  obtain ⟨e0, e1, e2⟩ := put3_cells HP.out nilV
  have HPF := hid (put3_later HL1.out (Nat.le_refl _) nilV)
  rw [← hwf] at e0 e1 e2 HPF
  change bodyPost _ _ _ _ _ (put3 w1 w.heap.size nilV)
  rw [← hwf]
  clear hwf
  exact bodyPost_ret (v := .tuple #[nilV.v, rangeE]) (by simp [results, Tryd.results10, go_sem, e0, e1, e2, rangeE]) rfl ⟨HPF.out, by rw [if_neg fun h => HK.out h.1]⟩
set_option maxRecDepth 100000 in
set_option maxHeartbeats 4000000 in
theorem fold_good (kind : Int) (h1 : 1 ≤ kind) (h7 : kind ≤ 7) (l : List TV) (v : Value) (w : World) (hv : IsTimeds w v l) (hlen : l.length * 40 ≤ 140737488355328) : Calls Tryd.prog 10 #[.int .i64 kind, v] w (FoldTo kind l w) := by
  obtain ⟨p, c, rfl, hlc, hcm, -, he⟩ := hv.lt
  have HE := hid he; have H1 := hid h1; have H7 := hid h7; have HLEN := hid hlen
  clear he hlc hcm hv h1 h7 hlen
  go_enter Tryd.func10, Tryd.ntmps10
  go_wp2_with fail
  refine (new_any kind H1.out H7.out _).mono ?_
  rintro e w1 ⟨v, rfl, ha, hL1⟩
  obtain ⟨R, hR⟩ : ∃ R, R = w.heap.size := ⟨_, rfl⟩
  obtain ⟨B, hB⟩ : ∃ B, B = w.heap.size + 1 := ⟨_, rfl⟩
  rw [World.size_alloc, ← hB] at ha
  have HP := hid (hL1.obj (obj_new w _))
  have HL1 := hid (Later.trans _ _ _ (Later.alloc _ _) hL1)
  have HA := hid ha
  obtain ⟨T, A, rfl⟩ := ha.iface
  have HBS : Hid (B ≤ w1.heap.size) := hid (by have := hL1.size; rw [World.size_alloc] at this; omega)
  rw [← hR] at HP ⊢
  have HR := hid hR; have HB := hid hB
  clear ha hL1 hR hB
  go_upto_region 4 with (fail)
  go_wp2_with fail
  obtain ⟨R1, hR1⟩ : ∃ RR_ : (Nat → Value) → World → Prop, RR_ = (fun us wx => ∃ n : Nat, us 21 = .int .i64 n ∧ n ≤ l.length ∧ okT (l.take n) = true ∧ AccAt kind B wx (.iface T (.pointer (some ⟨A, 0, none⟩))) (l.take n) ∧ Keeps (fun b => b < B) w1 wx) := ⟨_, rfl⟩
  obtain ⟨mu1, hmu1⟩ : ∃ mu : (Nat → Value) → World → Nat, mu = (fun us _ => l.length - (intOf (us 21)).toNat) := ⟨_, rfl⟩
  have HR1 := hid hR1; have Hmu1 := hid hmu1; clear hR1 hmu1
  refine wp_loop_frame' [false, false, false, false, false, true, false, false, false, true, false, false, false, false, false, false, false, false, false, false, false, true, true, true, true, true, true, true, true, true, true, true, true, true, true] R1 _ mu1 HR1.out ?_ ?_
  · exact ⟨0, rfl, Nat.zero_le _, rfl, HA.out, Keeps.refl _ _⟩
  intro us1 wx hrel
  obtain ⟨n, h21, hn, hok, hacc, hk⟩ := hrel
  simp only [frameOf, Nat.reduceAdd, h21]
  have Hh21 := hid h21; clear h21
  have HN := hid hn; have HOK := hid hok; have HACC := hid hacc; have HK := hid hk
  clear hn hok hacc hk
  by_cases hnl : n < l.length
  · go_upto_region 6 with (fail)
    obtain ⟨b1, o1, rfl, hb1, e1⟩ := HE.out n hnl
    have HEL := hid (e1.later HL1.out)
    obtain ⟨p0, p1, p2, p3⟩ := (e1.later HL1.out).kept (by have := HB.out; omega) HK.out
    clear e1
    have hl1 : b1 < wx.heap.size := cell_lt p0
    obtain ⟨t, ht⟩ : ∃ t, t = l[n] := ⟨_, rfl⟩
    have HT := hid ht
    rw [← ht] at p0 p1 p2 p3
    clear ht
    obtain ⟨ti, tk, tn, tt⟩ := t
    go_wp2_with fail
    obtain ⟨w2, hw2⟩ : ∃ w2, w2 = wx.alloc (.cells #[.int .i64 ti, .int .i64 tk, .int .i64 tn, .string tt] 36 (0, 0)) := ⟨_, rfl⟩
    obtain ⟨U, hU⟩ : ∃ U, U = wx.heap.size := ⟨_, rfl⟩
    have HU2 : Hid (w2.heap[U]? = some (.cells #[.int .i64 ti, .int .i64 tk, .int .i64 tn, .string tt] 36 (0, 0))) := hid (by rw [hw2, hU]; exact obj_new _ _)
    have HL2 : Hid (Later wx w2) := hid (by rw [hw2]; exact Later.alloc _ _)
    rw [← hw2, ← hU]
    clear hw2 hU p0 p1 p2 p3 hl1
    refine (valid_any ⟨tk, tn, tt⟩ w2).mono ?_
    rintro e w3 ⟨rfl, hL3⟩
    have HU3 := hid (hL3.obj HU2.out)
    have HL3 := hid (Later.trans _ _ _ HL2.out hL3)
    have HK3 := hid (HK.out.more HL3.out)
    clear hL3 HU2 HL2
    have HTK : Hid (okT (l.take (n + 1)) = (okT (l.take n) && validV ⟨tk, tn, tt⟩)) := hid (by
      unfold okT
      rw [List.take_succ_eq_append_getElem hnl, List.all_append, ← HT.out]
      simp)
    cases hval : validV ⟨tk, tn, tt⟩ with
    | false =>
      have HNO : Hid (okT l = false) := hid (by
        have h := HTK.out
        rw [hval, Bool.and_false] at h
        unfold okT at *
        rw [← Bool.not_eq_true, List.all_eq_true] at h ⊢
        exact fun k => h fun x hx => k x (List.mem_of_mem_take hx))
      have HP3 := hid (HK3.out.obj (by have := HB.out; have := HR.out; omega) HP.out)
      have q0 := cell_obj (i := 0) HP3.out rfl
      have q1 := cell_obj (i := 1) HP3.out rfl
      have q2 := cell_obj (i := 2) HP3.out rfl
      have f0 := free_obj (i := 0) HP3.out
      have f1 := free_obj (i := 1) HP3.out
      have f2 := free_obj (i := 2) HP3.out
      have hl := cell_lt q0
      go_wp2_with fail
      clear q0 q1 q2 f0 f1 f2
      have hlow : Later w w3 := ((HL1.out.keeps (fun b => b < w.heap.size)).trans (HK3.out.mono fun b _ hb => by have := HB.out; omega)).mono (S' := fun _ => True) (fun k hk _ => hk) |>.later
      obtain ⟨wf, hwf⟩ : ∃ wf, wf = put3 w3 R nilV := ⟨_, rfl⟩
      obtain ⟨e0, e1, e2⟩ := put3_cells HP3.out nilV
      have HPF := hid (put3_later hlow (Nat.le_of_eq HR.out.symm) nilV)
      rw [← hwf] at e0 e1 e2 HPF
      change bodyPost _ _ _ _ _ (put3 w3 R nilV)
      rw [← hwf]
      clear hwf
      exact bodyPost_ret (v := .tuple #[nilV.v, rangeE]) (by simp [results, Tryd.results10, go_sem, e0, e1, e2, rangeE]) rfl ⟨HPF.out, by rw [if_neg fun h => by rw [HNO.out] at h; cases h.2]⟩
    | true =>
      have u0 := cell_obj (i := 0) HU3.out (v := .int .i64 ti) rfl
      have u1 := cell_obj (i := 1) HU3.out (v := .int .i64 tk) rfl
      have u2 := cell_obj (i := 2) HU3.out (v := .int .i64 tn) rfl
      have u3 := cell_obj (i := 3) HU3.out (v := .string tt) rfl
      have hu := cell_lt u0
      go_upto_region 9 with (fail)
      have hacc := HACC.out.later HL3.out
      have HX := hid (show (1 : Nat) = 1 from rfl)
      rcases hacc with ⟨h0, A', h1, h2, h3⟩ | ⟨h0, A', h1, h2, h3⟩ | ⟨h0, A', u, h1, h2, h3⟩ | ⟨sg, h0, A', Bo, Bs, h1, h2, h3⟩ | ⟨sg, h0, A', Bo, Bs, h1, h2, h3⟩
      all_goals
        simp only [Value.iface.injEq, Value.pointer.injEq, Option.some.injEq, Addr.mk.injEq, and_true] at h2
        obtain ⟨rfl, rfl⟩ := h2
      · have H3 := hid h3; have H0 := hid h0; have HBA := hid h1
        clear h0 h1 h3
        go_wp2_with fail
        refine (acc_cnt H0.out HBA.out H3.out ⟨ti, ⟨tk, tn, tt⟩⟩).mono ?_
        rintro e w4 ⟨rfl, ha4, hk4⟩
        have HA4 := hid ha4; have HK4 := hid (HK3.out.trans hk4)
        clear ha4 hk4 u0 u1 u2 u3 hu
        go_wp2_with fail
        have hw : wrap64 ((n : Int) + 1) = ((n + 1 : Nat) : Int) := by have := HLEN.out; unfold wrap64; omega
        rw [hw]
        refine Round.mk' HR1.out Hmu1.out rfl ?_ ?_
        · refine ⟨n + 1, rfl, hnl, by rw [HTK.out, HOK.out, hval]; rfl, ?_, HK4.out⟩
          rw [List.take_succ_eq_append_getElem hnl, ← HT.out]
          exact HA4.out
        · simp only [slots, List.getD_cons_succ, List.getD_cons_zero, Hh21.out, intOf, Int.toNat_natCast]
          omega
      · have H3 := hid h3; have H0 := hid h0; have HBA := hid h1
        clear h0 h1 h3
        go_wp2_with fail
        refine (acc_sum H0.out HBA.out H3.out ⟨ti, ⟨tk, tn, tt⟩⟩).mono ?_
        rintro e w4 ⟨rfl, ha4, hk4⟩
        have HA4 := hid ha4; have HK4 := hid (HK3.out.trans hk4)
        clear ha4 hk4 u0 u1 u2 u3 hu
        go_wp2_with fail
        have hw : wrap64 ((n : Int) + 1) = ((n + 1 : Nat) : Int) := by have := HLEN.out; unfold wrap64; omega
        rw [hw]
        refine Round.mk' HR1.out Hmu1.out rfl ?_ ?_
        · refine ⟨n + 1, rfl, hnl, by rw [HTK.out, HOK.out, hval]; rfl, ?_, HK4.out⟩
          rw [List.take_succ_eq_append_getElem hnl, ← HT.out]
          exact HA4.out
        · simp only [slots, List.getD_cons_succ, List.getD_cons_zero, Hh21.out, intOf, Int.toNat_natCast]
          omega
      · have H3 := hid h3; have H0 := hid h0; have HBA := hid h1
        clear h0 h1 h3
        go_wp2_with fail
        refine (acc_set H0.out HBA.out H3.out ⟨ti, ⟨tk, tn, tt⟩⟩ (by have := HLEN.out; have := HN.out; rw [List.length_take]; omega) (by have := HBS.out; have := HK3.out.size; omega)).mono ?_
        rintro e w4 ⟨rfl, ha4, hk4⟩
        have HA4 := hid ha4; have HK4 := hid (HK3.out.trans hk4)
        clear ha4 hk4 u0 u1 u2 u3 hu
        go_wp2_with fail
        have hw : wrap64 ((n : Int) + 1) = ((n + 1 : Nat) : Int) := by have := HLEN.out; unfold wrap64; omega
        rw [hw]
        refine Round.mk' HR1.out Hmu1.out rfl ?_ ?_
        · refine ⟨n + 1, rfl, hnl, by rw [HTK.out, HOK.out, hval]; rfl, ?_, HK4.out⟩
          rw [List.take_succ_eq_append_getElem hnl, ← HT.out]
          exact HA4.out
        · simp only [slots, List.getD_cons_succ, List.getD_cons_zero, Hh21.out, intOf, Int.toNat_natCast]
          omega
      · have H3 := hid h3; have H0 := hid h0; have HBA := hid h1
        clear h0 h1 h3
        go_wp2_with fail
        refine (acc_chv H0.out HBA.out H3.out ⟨ti, ⟨tk, tn, tt⟩⟩).mono ?_
        rintro e w4 ⟨rfl, ha4, hk4⟩
        have HA4 := hid ha4; have HK4 := hid (HK3.out.trans hk4)
        clear ha4 hk4 u0 u1 u2 u3 hu
        go_wp2_with fail
        have hw : wrap64 ((n : Int) + 1) = ((n + 1 : Nat) : Int) := by have := HLEN.out; unfold wrap64; omega
        rw [hw]
        refine Round.mk' HR1.out Hmu1.out rfl ?_ ?_
        · refine ⟨n + 1, rfl, hnl, by rw [HTK.out, HOK.out, hval]; rfl, ?_, HK4.out⟩
          rw [List.take_succ_eq_append_getElem hnl, ← HT.out]
          exact HA4.out
        · simp only [slots, List.getD_cons_succ, List.getD_cons_zero, Hh21.out, intOf, Int.toNat_natCast]
          omega
      · have H3 := hid h3; have H0 := hid h0; have HBA := hid h1
        clear h0 h1 h3
        go_wp2_with fail
        refine (acc_cht H0.out HBA.out H3.out ⟨ti, ⟨tk, tn, tt⟩⟩).mono ?_
        rintro e w4 ⟨rfl, ha4, hk4⟩
        have HA4 := hid ha4; have HK4 := hid (HK3.out.trans hk4)
        clear ha4 hk4 u0 u1 u2 u3 hu
        go_wp2_with fail
        have hw : wrap64 ((n : Int) + 1) = ((n + 1 : Nat) : Int) := by have := HLEN.out; unfold wrap64; omega
        rw [hw]
        refine Round.mk' HR1.out Hmu1.out rfl ?_ ?_
        · refine ⟨n + 1, rfl, hnl, by rw [HTK.out, HOK.out, hval]; rfl, ?_, HK4.out⟩
          rw [List.take_succ_eq_append_getElem hnl, ← HT.out]
          exact HA4.out
        · simp only [slots, List.getD_cons_succ, List.getD_cons_zero, Hh21.out, intOf, Int.toNat_natCast]
          omega
  · have hnl' : n = l.length := by have := HN.out; omega
    subst hnl'
    have HOK' : Hid (okT l = true) := hid (by have := HOK.out; rwa [List.take_length] at this)
    have HACC' : Hid (AccAt kind B wx (.iface T (.pointer (some ⟨A, 0, none⟩))) l) := hid (by have := HACC.out; rwa [List.take_length] at this)
    clear HOK HACC
    have HPX := hid (HK.out.obj (by have := HB.out; have := HR.out; omega) HP.out)
    have hlow : Later w wx := ((HL1.out.keeps (fun b => b < w.heap.size)).trans (HK.out.mono fun b _ hb => by have := HB.out; omega)).mono (S' := fun _ => True) (fun k hk _ => hk) |>.later
    have HLX := hid hlow
    clear hlow
    go_upto_region 11 with (fail)
    have hacc := HACC'.out
    have HX := hid (show (1 : Nat) = 1 from rfl)
    rcases hacc with ⟨h0, A', h1, h2, h3⟩ | ⟨h0, A', h1, h2, h3⟩ | ⟨h0, A', u, h1, h2, h3⟩ | ⟨sg, h0, A', Bo, Bs, h1, h2, h3⟩ | ⟨sg, h0, A', Bo, Bs, h1, h2, h3⟩
    all_goals
      simp only [Value.iface.injEq, Value.pointer.injEq, Option.some.injEq, Addr.mk.injEq, and_true] at h2
      obtain ⟨rfl, rfl⟩ := h2
    · have H3 := hid h3
      have HV : Hid (intV (wrap64 l.length) = foldV kind l) := hid (by rw [h0]; exact val_cnt l (by have := HLEN.out; omega))
      clear h0 h1 h3
      go_wp2_with fail
      refine (cnt_val A _ wx H3.out).mono ?_
      rintro e w4 ⟨rfl, hL4⟩
      rw [HV.out]
      have HL4 := hid (Later.trans _ _ _ HLX.out hL4)
      have HP4 := hid (hL4.obj HPX.out)
      clear hL4
      have q0 := cell_obj (i := 0) HP4.out rfl
      have q1 := cell_obj (i := 1) HP4.out rfl
      have q2 := cell_obj (i := 2) HP4.out rfl
      have f0 := free_obj (i := 0) HP4.out
      have f1 := free_obj (i := 1) HP4.out
      have f2 := free_obj (i := 2) HP4.out
      have hl := cell_lt q0
      go_wp2_with fail
      clear q0 q1 q2 f0 f1 f2
      obtain ⟨wf, hwf⟩ : ∃ wf, wf = put3 w4 R (foldV kind l) := ⟨_, rfl⟩
      obtain ⟨e0, e1, e2⟩ := put3_cells HP4.out (foldV kind l)
      have HPF := hid (put3_later HL4.out (Nat.le_of_eq HR.out.symm) (foldV kind l))
      rw [← hwf] at e0 e1 e2 HPF
      change bodyPost _ _ _ _ _ (put3 w4 R (foldV kind l))
      rw [← hwf]
      clear hwf
      exact bodyPost_ret (v := .tuple #[(foldV kind l).v, .nilIface]) (by simp [results, Tryd.results10, go_sem, e0, e1, e2, rangeE]) rfl ⟨HPF.out, by rw [if_pos ⟨⟨H1.out, H7.out⟩, HOK'.out⟩]⟩
    · have H3 := hid h3
      have HV : Hid (sumV (l.foldl sumP (0, 0)) = foldV kind l) := hid (by rw [h0]; exact val_sum l)
      clear h0 h1 h3
      go_wp2_with fail
      refine (sum_val A _ wx H3.out).mono ?_
      rintro e w4 ⟨rfl, hL4⟩
      rw [HV.out]
      have HL4 := hid (Later.trans _ _ _ HLX.out hL4)
      have HP4 := hid (hL4.obj HPX.out)
      clear hL4
      have q0 := cell_obj (i := 0) HP4.out rfl
      have q1 := cell_obj (i := 1) HP4.out rfl
      have q2 := cell_obj (i := 2) HP4.out rfl
      have f0 := free_obj (i := 0) HP4.out
      have f1 := free_obj (i := 1) HP4.out
      have f2 := free_obj (i := 2) HP4.out
      have hl := cell_lt q0
      go_wp2_with fail
      clear q0 q1 q2 f0 f1 f2
      obtain ⟨wf, hwf⟩ : ∃ wf, wf = put3 w4 R (foldV kind l) := ⟨_, rfl⟩
      obtain ⟨e0, e1, e2⟩ := put3_cells HP4.out (foldV kind l)
      have HPF := hid (put3_later HL4.out (Nat.le_of_eq HR.out.symm) (foldV kind l))
      rw [← hwf] at e0 e1 e2 HPF
      change bodyPost _ _ _ _ _ (put3 w4 R (foldV kind l))
      rw [← hwf]
      clear hwf
      exact bodyPost_ret (v := .tuple #[(foldV kind l).v, .nilIface]) (by simp [results, Tryd.results10, go_sem, e0, e1, e2, rangeE]) rfl ⟨HPF.out, by rw [if_pos ⟨⟨H1.out, H7.out⟩, HOK'.out⟩]⟩
    · have H3 := hid h3
      have HV : Hid (intV (setOf l).length = foldV kind l) := hid (by rw [h0]; exact val_set l)
      clear h0 h1 h3
      go_wp2_with fail
      refine (set_val A B u _ wx H3.out).mono ?_
      rintro e w4 ⟨rfl, hL4⟩
      rw [HV.out]
      have HL4 := hid (Later.trans _ _ _ HLX.out hL4)
      have HP4 := hid (hL4.obj HPX.out)
      clear hL4
      have q0 := cell_obj (i := 0) HP4.out rfl
      have q1 := cell_obj (i := 1) HP4.out rfl
      have q2 := cell_obj (i := 2) HP4.out rfl
      have f0 := free_obj (i := 0) HP4.out
      have f1 := free_obj (i := 1) HP4.out
      have f2 := free_obj (i := 2) HP4.out
      have hl := cell_lt q0
      go_wp2_with fail
      clear q0 q1 q2 f0 f1 f2
      obtain ⟨wf, hwf⟩ : ∃ wf, wf = put3 w4 R (foldV kind l) := ⟨_, rfl⟩
      obtain ⟨e0, e1, e2⟩ := put3_cells HP4.out (foldV kind l)
      have HPF := hid (put3_later HL4.out (Nat.le_of_eq HR.out.symm) (foldV kind l))
      rw [← hwf] at e0 e1 e2 HPF
      change bodyPost _ _ _ _ _ (put3 w4 R (foldV kind l))
      rw [← hwf]
      clear hwf
      exact bodyPost_ret (v := .tuple #[(foldV kind l).v, .nilIface]) (by simp [results, Tryd.results10, go_sem, e0, e1, e2, rangeE]) rfl ⟨HPF.out, by rw [if_pos ⟨⟨H1.out, H7.out⟩, HOK'.out⟩]⟩
    · have H3 := hid h3
      have HV : Hid ((l.foldl (chooseP (beforeP kind)) nilTV).val = foldV kind l) := hid (val_ch (by rcases h0 with ⟨h, -⟩ | ⟨h, -⟩ <;> omega) l)
      clear h0 h1 h3
      go_wp2_with fail
      refine (ch_val _ sg A Bo Bs _ wx H3.out).mono ?_
      rintro e w4 ⟨rfl, hL4⟩
      rw [HV.out]
      have HL4 := hid (Later.trans _ _ _ HLX.out hL4)
      have HP4 := hid (hL4.obj HPX.out)
      clear hL4
      have q0 := cell_obj (i := 0) HP4.out rfl
      have q1 := cell_obj (i := 1) HP4.out rfl
      have q2 := cell_obj (i := 2) HP4.out rfl
      have f0 := free_obj (i := 0) HP4.out
      have f1 := free_obj (i := 1) HP4.out
      have f2 := free_obj (i := 2) HP4.out
      have hl := cell_lt q0
      go_wp2_with fail
      clear q0 q1 q2 f0 f1 f2
      obtain ⟨wf, hwf⟩ : ∃ wf, wf = put3 w4 R (foldV kind l) := ⟨_, rfl⟩
      obtain ⟨e0, e1, e2⟩ := put3_cells HP4.out (foldV kind l)
      have HPF := hid (put3_later HL4.out (Nat.le_of_eq HR.out.symm) (foldV kind l))
      rw [← hwf] at e0 e1 e2 HPF
      change bodyPost _ _ _ _ _ (put3 w4 R (foldV kind l))
      rw [← hwf]
      clear hwf
      exact bodyPost_ret (v := .tuple #[(foldV kind l).v, .nilIface]) (by simp [results, Tryd.results10, go_sem, e0, e1, e2, rangeE]) rfl ⟨HPF.out, by rw [if_pos ⟨⟨H1.out, H7.out⟩, HOK'.out⟩]⟩
    · have H3 := hid h3
      have HV : Hid ((l.foldl (chooseP (beforeP kind)) nilTV).val = foldV kind l) := hid (val_ch (by rcases h0 with ⟨h, -⟩ | ⟨h, -⟩ <;> omega) l)
      clear h0 h1 h3
      go_wp2_with fail
      refine (ch_val _ sg A Bo Bs _ wx H3.out).mono ?_
      rintro e w4 ⟨rfl, hL4⟩
      rw [HV.out]
      have HL4 := hid (Later.trans _ _ _ HLX.out hL4)
      have HP4 := hid (hL4.obj HPX.out)
      clear hL4
      have q0 := cell_obj (i := 0) HP4.out rfl
      have q1 := cell_obj (i := 1) HP4.out rfl
      have q2 := cell_obj (i := 2) HP4.out rfl
      have f0 := free_obj (i := 0) HP4.out
      have f1 := free_obj (i := 1) HP4.out
      have f2 := free_obj (i := 2) HP4.out
      have hl := cell_lt q0
      go_wp2_with fail
      clear q0 q1 q2 f0 f1 f2
      obtain ⟨wf, hwf⟩ : ∃ wf, wf = put3 w4 R (foldV kind l) := ⟨_, rfl⟩
      obtain ⟨e0, e1, e2⟩ := put3_cells HP4.out (foldV kind l)
      have HPF := hid (put3_later HL4.out (Nat.le_of_eq HR.out.symm) (foldV kind l))
      rw [← hwf] at e0 e1 e2 HPF
      change bodyPost _ _ _ _ _ (put3 w4 R (foldV kind l))
      rw [← hwf]
      clear hwf
      exact bodyPost_ret (v := .tuple #[(foldV kind l).v, .nilIface]) (by simp [results, Tryd.results10, go_sem, e0, e1, e2, rangeE]) rfl ⟨HPF.out, by rw [if_pos ⟨⟨H1.out, H7.out⟩, HOK'.out⟩]⟩
end Go.Proofs.YtcmpjdnbjhkhdaaDoor
