/-
  PROVED HERE: the contract of table.Prepare.
  PROVED HERE: the contracts of the table's take and Abort.
  PROVED HERE: the contracts of the table's Prepared, Waiting and Rows.
-/
import Derived.Test.YtcmpjdnbjhkhdaaDoorTabAt
namespace Go.Proofs.YtcmpjdnbjhkhdaaDoor
set_option linter.unusedSimpArgs false
set_option linter.unusedVariables false
open Go.RowKit

variable {B : Nat} {N : Nat → Prop} {w w' : World} {A M n : Nat} {f : List UInt8 → Option Value} {h : List UInt8 → List RX} {pv : Value} {ps : List PD} {Mut : Nat → Prop}
def stateT : Value := .iface 30 (.int .i64 6)
/-- sorted rows in a slice of their own. -/
def SortK (B : Nat) (l : List Row) (v : Value) (w : World) : Prop := ∃ a n c xs, v = .slice a n c ∧ OwnR B w v xs ∧ DeepR B w xs ∧ (xs.map (·.row)).Perm l ∧ SortedR (xs.map (·.row))
theorem SortK.later {B : Nat} {l : List Row} {v : Value} {w w' : World} (h : SortK B l v w) (k : Later w w') : SortK B l v w' := let ⟨a, n, c, xs, e, h1, h2, h3, h4⟩ := h; ⟨a, n, c, xs, e, owns_at h1 k, h2.later k, h3, h4⟩
theorem SortK.of {w w' : World} {B : Nat} {l : List Row} {v : Value} {xs : List RX} (ho : OwnR w.heap.size w' v xs) (hd : DeepR w.heap.size w' xs) (hp : (xs.map (·.row)).Perm l) (hs : SortedR (xs.map (·.row))) (hB : B ≤ w.heap.size) : SortK B l v w' := by
  obtain ⟨a, c, e⟩ := ownsRow_slice ho
  exact ⟨a, _, c, xs, e, ownsRow_base ho hB, ⟨fun x hx => ownsRow_base (hd.own x hx) hB, hd.apart⟩, hp, hs⟩
theorem tab_prepare_no (t : TabAt B N w A M n f h pv ps Mut) (x : TxD) (hl : ps.length ≤ 4398046511104) (hh : hasP ps x = true) (v : Value) :
    Calls Tryd.prog 35 #[.pointer (some ⟨A, 0, none⟩), x.v, v] w fun e w' => e = .returned stateT ∧ Later w w' := by
  have T := hid t; have HL := hid hl; have HH := hid hh
  obtain ⟨k, s, z⟩ := x
  clear t hl hh
  go_enter Tryd.func35, Tryd.ntmps35
  go_wp2_with fail
  refine (tab_find (T.out.later (Later.alloc _ _)) ⟨k, s, z⟩ HL.out).mono ?_
  rintro e w2 ⟨rfl, hL⟩
  rw [HH.out]
  have HL2 := hid (Later.trans _ _ _ (Later.alloc _ _) hL)
  clear hL
  go_wp2_with fail
  go_ret
  exact ⟨rfl, HL2.out⟩
/-- a new prepared transaction, ready to be laid down. -/
def NewPd (B : Nat) (k : Int) (s : List UInt8) (z : Int) (l : List Row) (v : Value) (w : World) : Prop := ∃ b a n c, v = .slice (some ⟨b, 0, none⟩) 1 1 ∧ B ≤ b ∧ w.heap[b]? = some (.cells #[.int .i64 k, .string (strB s), .int .i64 z, .slice a n c] 137 (0, 0)) ∧ SortK B l (.slice a n c) w
theorem NewPd.later {B : Nat} {k : Int} {s : List UInt8} {z : Int} {l : List Row} {v : Value} {w w' : World} (h : NewPd B k s z l v w) (hR : Later w w') : NewPd B k s z l v w' := let ⟨b, a, n, c, h, h0, h', h2⟩ := h; ⟨b, a, n, c, h, h0, hR.obj h', h2.later hR⟩
def AggPd (B : Nat) (k : Int) (s : List UInt8) (z : Int) (l : List Row) (v : Value) (w : World) : Prop := ∃ a n c, v = .agg #[.int .i64 k, .string (strB s), .int .i64 z, .slice a n c] ∧ SortK B l (.slice a n c) w
theorem AggPd.later {B : Nat} {k : Int} {s : List UInt8} {z : Int} {l : List Row} {v : Value} {w w' : World} (h : AggPd B k s z l v w) (hR : Later w w') : AggPd B k s z l v w' := let ⟨a, n, c, h, h2⟩ := h; ⟨a, n, c, h, h2.later hR⟩
theorem ins_mem {α : Type} {l : List α} {i : Nat} {x y : α} (h : y ∈ l.take i ++ x :: l.drop i) : y ∈ l ∨ y = x := by
  rcases List.mem_append.1 h with h | h
  · exact .inl (List.mem_of_mem_take h)
  · rcases List.mem_cons.1 h with rfl | h
    · exact .inr rfl
    · exact .inl (List.mem_of_mem_drop h)
def PrepTo (B : Nat) (N : Nat → Prop) (w : World) (A M n : Nat) (f : List UInt8 → Option Value) (h : List UInt8 → List RX) (ps : List PD) (x : TxD) (l : List Row) (e : Ending) (w' : World) : Prop :=
  e = .returned .nilIface ∧ ∃ pv' p Mut', p.tx = x ∧ (p.xs.map (·.row)).Perm l ∧ TabAt B (fun b => N b ∨ w.heap.size ≤ b) w' A M n f h pv' (ps.take (placeP ps x) ++ p :: ps.drop (placeP ps x)) Mut' ∧ Keeps (fun b => ¬ N b) w w'
set_option maxRecDepth 100000 in
set_option maxHeartbeats 4000000 in
theorem tab_prepare (t : TabAt B N w A M n f h pv ps Mut) (x : TxD) (hl : (ps.length + 1) * 56 ≤ 140737488355328) (hh : hasP ps x = false) (v : Value) (l : List Row) (hv : IsRows w v l) (hln : l.length * 32 ≤ 140737488355328) (hr : ∀ y ∈ l, y.vals.length * 32 ≤ 140737488355328) :
    Calls Tryd.prog 35 #[.pointer (some ⟨A, 0, none⟩), x.v, v] w (PrepTo B N w A M n f h ps x l) := by
  have T := hid t; have HL := hid hl; have HH := hid hh; have HV := hid hv; have HLN := hid hln; have HR := hid hr
  obtain ⟨a, c, rfl⟩ := t.own.slice
  obtain ⟨va, vc, rfl, -⟩ := hv
  obtain ⟨ll, hll⟩ : ∃ ll, ll = l.length := ⟨_, rfl⟩
  rw [← hll] at HV ⊢
  clear hll
  have HNO := hid (insC_rise (key := PD.tx) compareT_total t.rise)
  obtain ⟨k, s, z⟩ := x
  have HPL : Hid (placeP ps ⟨k, s, z⟩ ≤ ps.length) := hid (placeC_le (c := compareT) (key := PD.tx) ps _)
  obtain ⟨pp, hpp⟩ : ∃ pp, pp = placeP ps ⟨k, s, z⟩ := ⟨_, rfl⟩
  have HPP := hid hpp
  clear t hl hh hln hr
  go_enter Tryd.func35, Tryd.ntmps35
  go_wp2_with fail
  obtain ⟨w1, hw1⟩ : ∃ w1, w1 = w.alloc (.cells #[.int .i64 k, .string (strB s), .int .i64 z] 72 (0, 0)) := ⟨_, rfl⟩
  obtain ⟨X, hX⟩ : ∃ X, X = w.heap.size := ⟨_, rfl⟩
  have HL1 : Hid (Later w w1) := hid (by rw [hw1]; exact Later.alloc _ _)
  have HX1 : Hid (w1.heap[X]? = some (.cells #[.int .i64 k, .string (strB s), .int .i64 z] 72 (0, 0))) := hid (by rw [hw1, hX]; exact obj_new _ _)
  rw [← hw1, ← hX]
  clear hw1 hX
  refine (tab_find (T.out.later HL1.out) ⟨k, s, z⟩ (by have := HL.out; omega)).mono ?_
  rintro e w2 ⟨rfl, hL⟩
  rw [HH.out, ← hpp]
  rw [← hpp] at HPL
  have HL2 := hid (Later.trans _ _ _ HL1.out hL)
  have HX2 := hid (hL.obj HX1.out)
  have T2 := hid (T.out.later HL2.out)
  clear hL hpp HL1 HX1
  go_upto_region 4 with (fail)
  have c1 := T2.out.c1
  have x0 := cell_obj (i := 0) HX2.out (v := .int .i64 k) rfl
  have x1 := cell_obj (i := 1) HX2.out (v := .string (strB s)) rfl
  have x2 := cell_obj (i := 2) HX2.out (v := .int .i64 z) rfl
  have hl1 := cell_lt c1
  have hl2 := cell_lt x0
  have HV2 := hid (SliceOf.rows_later HV.out HL2.out)
  refine wp_region_plan (by kernel_rfl) (by kernel_rfl) [0] [11, 12, 13, 14] (by kernel_rfl) (fun _ _ d _ _ h => by cases d <;> exact h) (Later) (Later.refl) (Later.trans) (kinds [(8, SortK w2.heap.size l), (9, AggPd w2.heap.size k s z l), (10, NewPd w2.heap.size k s z l)]) (kinds_still (by simp only [List.mem_cons, List.not_mem_nil, or_false, forall_eq_or_imp, forall_eq]; exact ⟨fun _ _ _ hR h => h.later hR, fun _ _ _ hR h => h.later hR, fun _ _ _ hR h => h.later hR⟩)) ?_
  simp only [body, tail, numbered, Nat.reduceAdd, List.filter_cons, List.filter_nil, List.contains_cons, List.contains_nil, Nat.reduceBEq, Bool.or_false, Bool.or_true, Bool.false_or, Bool.true_or, Bool.not_true, Bool.not_false, Bool.and_true, Bool.and_false, Bool.true_and, Bool.false_and, if_true, if_false, reduceIte, Bool.false_eq_true, List.map_cons, List.map_nil]
  refine Pures.cons rfl ?_
  apply Exists.intro
  refine ⟨fun w => ?_, ?_⟩
  · go_simp
    first | done | rfl
  simp only [Act.put, List.setIfInBounds_toArray, List.set]
  simp only [Pures]
  refine LexS.out ?_
  iterate 7
    first
    | (refine LexS.skip rfl ?_; simp only [Act.put, List.setIfInBounds_toArray, List.set])
    | (refine LexS.one' rfl rfl ?_
       apply Exists.intro
       refine ⟨fun w hR hF => ?_, ?_⟩
       · have hP := hR
         repeat (first | replace hP := Later.of_drew hP | replace hP := Later.of_drewN hP | replace hP := Later.of_alloc hP)
         have hcs := hR.cells
         have zc1 := hP.cell c1
         have zx0 := hP.cell x0
         have zx1 := hP.cell x1
         have zx2 := hP.cell x2
         clear hR hF hP
         go_simp
         first | done | rfl
       simp only [Act.put, List.setIfInBounds_toArray, List.set])
  refine LexS.any rfl rfl (fun w hR hF => ?_) ?_
  · have hP := hR
    repeat (first | replace hP := Later.of_drew hP | replace hP := Later.of_drewN hP | replace hP := Later.of_alloc hP)
    have hsz := hP.size
    have zc1 := hP.cell c1
    have zx0 := hP.cell x0
    have zx1 := hP.cell x1
    have zx2 := hP.cell x2
    clear hF hR c1 x0 x1 x2
    unfold Runs
    go_simp
    refine yield_enter ?_
    refine (sorted_rows l (.slice va ll vc) _ (SliceOf.rows_later HV2.out hP) HLN.out HR.out).mono ?_
    rintro e w' ⟨v', xs, rfl, ho, hd, hp, hs, hL⟩
    exact ⟨_, rfl, hL, (SortK.of ho hd hp hs hsz)⟩
  rintro vk_ ⟨wk_, hRk_, hFk_⟩
  obtain ⟨a8, n8, c8, xs8, rfl, -⟩ := hFk_ _ List.mem_cons_self _ rfl
  clear hFk_ hRk_ wk_
  simp only [Act.put, List.setIfInBounds_toArray, List.set]
  refine LexS.any rfl rfl (fun w hR hF => ?_) ?_
  · have hS := hF _ List.mem_cons_self (by kernel_rfl) _ rfl
    clear hF
    unfold Runs
    go_simp
    exact yield_value (Later.refl _) ⟨a8, n8, c8, rfl, hS⟩
  rintro v14 ⟨w3, hR3, hF3⟩
  obtain ⟨a9, n9, c9, rfl, -⟩ := hF3 _ List.mem_cons_self _ rfl
  clear hF3 hR3 w3
  simp only [Act.put, List.setIfInBounds_toArray, List.set]
  refine LexS.any rfl rfl (fun w hR hF => ?_) ?_
  · have hsz := hR.size
    have hS := hF _ List.mem_cons_self (by kernel_rfl) _ rfl
    obtain ⟨a9', n9', c9', he, hS⟩ := hS
    simp only [Value.agg.injEq, Array.mk.injEq, List.cons.injEq, Value.slice.injEq, and_true, true_and] at he
    obtain ⟨rfl, rfl, rfl⟩ := he
    clear hF hR
    unfold Runs
    go_simp
    exact yield_value (Later.alloc _ _) ⟨_, a9, n9, c9, rfl, hsz, obj_new _ _, SortK.later hS (Later.alloc _ _)⟩
  rintro v15 ⟨w3, hR3, hF3⟩
  obtain ⟨b, a11, n11, c11, rfl, -, -, -⟩ := hF3 _ List.mem_cons_self _ rfl
  clear hF3 hR3 w3
  simp only [Act.put, List.setIfInBounds_toArray, List.set]
  refine LexS.nil ?_
  intro w4 hR4 hF4
  obtain ⟨b', a', n', c', he, hbw, hbo, hS⟩ := hF4 _ List.mem_cons_self _ rfl
  simp only [Value.slice.injEq, Option.some.injEq, Addr.mk.injEq, and_true] at he
  subst he
  obtain ⟨a10, n10, c10, xs, hv10, ho, hd, hp, hs⟩ := hS
  clear hF4
  repeat (first | replace hR4 := Later.of_drew hR4 | replace hR4 := Later.of_drewN hR4 | replace hR4 := Later.of_alloc hR4)
  have HL4 := hid (Later.trans _ _ _ HL2.out hR4)
  have HW24 := hid hR4.size
  have T4 := hid (T.out.later HL4.out)
  have HO := hid ho; have HD := hid hd; have HP := hid hp; have HBO := hid hbo; have HBW := hid hbw
  have HRV := hid hv10
  have HWB : Hid (B ≤ w4.heap.size) := hid T4.out.base
  clear hR4 c1 x0 x1 x2 hl1 hl2 ho hd hp hs hbo hbw HX2 T2 HV2
  change wpList _ _ _ _ _ _
  go_wp2_with fail
  refine (insP_any ⟨⟨k, s, z⟩, .slice a' n' c', xs⟩ rfl ps T4.out.slP.one pp _ B b 137 w4 T4.out.own HBO.out ?ne HPL.out HL.out HWB.out).mono ?_
  case ne => intro e; have := (ownb T.out.own b e).2; have := HL2.out.size; have := HBW.out; omega
  rintro e w5 ⟨v5, rfl, hown, hk5, hkind⟩
  have HK5 := hid hk5; have HKI := hid hkind
  have HPS : Hid ((ps.take pp ++ (⟨⟨k, s, z⟩, .slice a' n' c', xs⟩ : PD) :: ps.drop pp).length = ps.length + 1) := hid (by have := HPL.out; simp only [List.length_append, List.length_cons, List.length_take, List.length_drop]; omega)
  obtain ⟨a5, c5, hv5⟩ := ownsRow_slice hown
  have HOW : Hid (OwnP B w5 v5 (ps.take pp ++ (⟨⟨k, s, z⟩, .slice a' n' c', xs⟩ : PD) :: ps.drop pp)) := hid (by unfold OwnP; rw [HPS.out]; exact hown)
  have hob5 := hk5.obj (fun e => T.out.pvA e.symm) T4.out.obj
  have HOB5 := hid hob5
  have d1 := cell_obj (i := 1) hob5 rfl
  have f1 := free_obj (i := 1) hob5
  have hl5 := cell_lt d1
  clear hown hk5 hkind hob5
  generalize ps.length + 1 = L5 at hv5
  have HV5 := hid hv5
  rw [hv5]
  clear hv5
  go_wp2_with fail
  change bodyPost _ _ _ _ _ (w5.setCell ⟨A, 1, none⟩ (.slice a5 L5 c5))
  rw [← HV5.out]
  obtain ⟨w6, hw6⟩ : ∃ w6, w6 = w5.setCell ⟨A, 1, none⟩ v5 := ⟨_, rfl⟩
  have HK6 : Hid (Keeps (fun b => b ≠ A) w5 w6) := hid (by rw [hw6]; exact (Keeps.refl (fun b => b ≠ A) w5).setCell (p := ⟨A, 1, none⟩) (.inl fun h => h rfl) v5)
  have HO6 : Hid (w6.heap[A]? = some (.cells #[.map (some M), v5] 132 (0, 0))) := hid (by rw [hw6]; exact obj_setCell (i := 1) HOB5.out v5)
  rw [← hw6]
  clear hw6 d1 f1 hl5
  go_ret
  have hAlt : A < w.heap.size := T.out.lt
  have hwz : w.heap.size ≤ w2.heap.size := HL2.out.size
  have hv5A : some A ≠ v5.ownBlock := by
    rcases HKI.out with h | h
    · rw [h]; exact fun e => T.out.pvA e.symm
    · intro e; have := h A e.symm; have := HL4.out.size; omega
  have hk46 : Keeps (fun b => some b ≠ (Value.slice a ps.length c).ownBlock ∧ b ≠ A) w4 w6 := (HK5.out.mono fun b _ hb => hb.1).trans (HK6.out.mono fun b _ hb => hb.2)
  have hk06 := (HL4.out.keeps (fun b => some b ≠ (Value.slice a ps.length c).ownBlock ∧ b ≠ A)).trans hk46
  have hnew : ∀ b, w2.heap.size ≤ b → some b ≠ (Value.slice a ps.length c).ownBlock ∧ b ≠ A := fun b hb => ⟨fun e => by have := (ownb T.out.own b e.symm).2; omega, by omega⟩
  have hOW6 := HOW.out.keep HK6.out fun g hg e => hv5A (by rw [hg, e])
  refine ⟨rfl, v5, ⟨⟨k, s, z⟩, .slice a' n' c', xs⟩, (fun b => Mut b ∨ v5.ownBlock = some b), rfl, HP.out, ?_, T.out.touchP hk06⟩
  rw [← HPP.out]
  refine T.out.turn hk06 HO6.out hOW6 ?_ ?_ ?_
  · have := HNO.out ⟨⟨k, s, z⟩, .slice a' n' c', xs⟩ HH.out
    have e := HPP.out
    unfold placeP at e
    rw [← e] at this
    exact this
  · exact HKI.out.imp id fun h b hb => Nat.le_trans HL4.out.size (h b hb)
  · intro p hp
    have hp := (ins_mem hp)
    rcases hp with hp | rfl
    · exact .inl hp
    · refine .inr ⟨?_, ?_⟩
      · exact own_base (owns_keep HO.out hk46 fun g hg => hnew g (ownb HO.out g hg).1) hwz
      · have h1 := HD.out.keep hk46 fun x hx b hb => hnew b (ownb (HD.out.own x hx) b hb).1
        exact ⟨fun x hx => own_base (h1.own x hx) hwz, h1.apart⟩
end Go.Proofs.YtcmpjdnbjhkhdaaDoor
namespace Go.Proofs.YtcmpjdnbjhkhdaaDoor
set_option linter.unusedSimpArgs false
set_option linter.unusedVariables false
open Go.RowKit

variable {B : Nat} {N : Nat → Prop} {w w' : World} {A M n : Nat} {f : List UInt8 → Option Value} {h : List UInt8 → List RX} {pv : Value} {ps : List PD} {Mut : Nat → Prop}
def zeroPV : Value := .agg #[.int .i64 0, .string ⟨#[]⟩, .int .i64 0, .slice none 0 0]
def PD.v (p : PD) : Value := .agg #[.int .i64 p.tx.mark, .string (strB p.tx.sink), .int .i64 p.tx.task, p.rv]
/-- what is where a transaction is found. -/
theorem found_at (hr : RiseP ps) {x : TxD} (hh : hasP ps x = true) : ∃ hlt : placeP ps x < ps.length, (ps[placeP ps x]'hlt).tx = x := by
  have h := placeC_has (key := PD.tx) compareT_total hr x
  unfold hasP at hh
  rw [hh] at h
  by_cases hlt : placeP ps x < ps.length
  · rw [dif_pos hlt] at h
    exact ⟨hlt, (compareT_total.eq _ _).1 (of_decide_eq_true h.symm)⟩
  · rw [dif_neg hlt] at h
    cases h
theorem del_rise (hr : RiseP ps) (i : Nat) : RiseP (ps.take i ++ ps.drop (i + 1)) := by
  have e : (ps.take i ++ ps.drop (i + 1)) = ps.eraseIdx i := (List.eraseIdx_eq_take_drop_succ ps i).symm
  rw [e]
  exact List.Pairwise.sublist (List.eraseIdx_sublist ps i) hr
/-- the two variables that take begins with. -/
theorem two_new (w : World) (k z : Int) (s : List UInt8) : ∃ w1 X, w1 = (w.alloc (.cells #[.int .i64 k, .string (strB s), .int .i64 z] 72 (0, 0))).alloc (.cells #[.int .i64 0, .string ⟨#[]⟩, .int .i64 0, .slice none 0 0] 137 (0, 0)) ∧ X = w.heap.size ∧ Later w w1 ∧
    w1.heap[X]? = some (.cells #[.int .i64 k, .string (strB s), .int .i64 z] 72 (0, 0)) ∧ w1.heap[X + 1]? = some (.cells #[.int .i64 0, .string ⟨#[]⟩, .int .i64 0, .slice none 0 0] 137 (0, 0)) := by
  refine ⟨_, _, rfl, rfl, (Later.alloc _ _).alloc' _, ?_, ?_⟩
  · exact (Later.alloc _ _).obj (obj_new _ _)
  · have := obj_new (w.alloc (.cells #[.int .i64 k, .string (strB s), .int .i64 z] 72 (0, 0))) (.cells #[.int .i64 0, .string ⟨#[]⟩, .int .i64 0, .slice none 0 0] 137 (0, 0))
    rw [World.size_alloc] at this
    exact this
theorem put_four {w : World} {R : Nat} {c0 c1 c2 c3 : Value} {T : TypeId} (h : w.heap[R]? = some (.cells #[c0, c1, c2, c3] T (0, 0))) (v0 v1 v2 v3 : Value) :
    ∃ w', w' = (((w.setCell ⟨R, 0, none⟩ v0).setCell ⟨R, 1, none⟩ v1).setCell ⟨R, 2, none⟩ v2).setCell ⟨R, 3, none⟩ v3 ∧ w'.heap[R]? = some (.cells #[v0, v1, v2, v3] T (0, 0)) ∧ ∀ w0, Later w0 w → w0.heap.size ≤ R → Later w0 w' :=
  ⟨_, rfl, obj_setCell (i := 3) (obj_setCell (i := 2) (obj_setCell (i := 1) (obj_setCell (i := 0) h v0) v1) v2) v3, fun w0 k hR => (((k.new (p := ⟨R, 0, none⟩) hR v0).new (p := ⟨R, 1, none⟩) hR v1).new (p := ⟨R, 2, none⟩) hR v2).new (p := ⟨R, 3, none⟩) hR v3⟩
set_option maxRecDepth 100000 in
theorem tab_take_no (t : TabAt B N w A M n f h pv ps Mut) (x : TxD) (hl : ps.length ≤ 4398046511104) (hh : hasP ps x = false) :
    Calls Tryd.prog 72 #[.pointer (some ⟨A, 0, none⟩), x.v] w fun e w' => e = .returned (.tuple #[zeroPV, .bool false]) ∧ Later w w' := by
  have T := hid t; have HL := hid hl; have HH := hid hh
  obtain ⟨k, s, z⟩ := x
  clear t hl hh
  go_enter Tryd.func72, Tryd.ntmps72
  go_upto_region 1 with (fail)
  obtain ⟨w1, X, hw1, hX, hL1, hX1, hX2⟩ := two_new w k z s
  have HL1 := hid hL1; have HX1 := hid hX1; have HX2 := hid hX2
  have HXW : Hid (w.heap.size ≤ X + 1) := hid (by omega)
  rw [← hw1, ← hX]
  clear hw1 hX hL1 hX1 hX2
  have x0 := cell_obj (i := 0) HX1.out (v := .int .i64 k) rfl
  have x1 := cell_obj (i := 1) HX1.out (v := .string (strB s)) rfl
  have x2 := cell_obj (i := 2) HX1.out (v := .int .i64 z) rfl
  have hlx := cell_lt x0
  go_wp2_with fail
  refine (tab_find (T.out.later HL1.out) ⟨k, s, z⟩ HL.out).mono ?_
  rintro e w2 ⟨rfl, hL⟩
  rw [HH.out]
  have HX3 := hid (hL.obj HX2.out)
  have HL2 := hid (Later.trans _ _ _ HL1.out hL)
  clear hL x0 x1 x2 hlx
  have y0 := cell_obj (i := 0) HX3.out (v := .int .i64 0) rfl
  have y1 := cell_obj (i := 1) HX3.out (v := .string ⟨#[]⟩) rfl
  have y2 := cell_obj (i := 2) HX3.out (v := .int .i64 0) rfl
  have y3 := cell_obj (i := 3) HX3.out (v := .slice none 0 0) rfl
  have hly := cell_lt y0
  have hf := fun j => free_obj (i := j) HX3.out
  go_wp2_with fail
  obtain ⟨w3, hw3, h3, hk3⟩ := put_four HX3.out (.int .i64 0) (.string ⟨#[]⟩) (.int .i64 0) (.slice none 0 0)
  change bodyPost _ _ _ _ _ ((((w2.setCell ⟨X + 1, 0, none⟩ (.int .i64 0)).setCell ⟨X + 1, 1, none⟩ (.string ⟨#[]⟩)).setCell ⟨X + 1, 2, none⟩ (.int .i64 0)).setCell ⟨X + 1, 3, none⟩ (.slice none 0 0))
  rw [← hw3]
  have HL3 := hid (hk3 w HL2.out HXW.out)
  clear hw3 hk3 y0 y1 y2 y3 hly hf
  have z0 := cell_obj (i := 0) h3 (v := .int .i64 0) rfl
  have z1 := cell_obj (i := 1) h3 (v := .string ⟨#[]⟩) rfl
  have z2 := cell_obj (i := 2) h3 (v := .int .i64 0) rfl
  have z3 := cell_obj (i := 3) h3 (v := .slice none 0 0) rfl
  have hlz := cell_lt z0
  refine bodyPost_ret (v := .tuple #[zeroPV, .bool false]) (by simp [results, Tryd.results72, go_sem, z0, z1, z2, z3] <;> rfl) rfl ⟨rfl, HL3.out⟩
def TakeTo (B : Nat) (N : Nat → Prop) (w : World) (A M n : Nat) (f : List UInt8 → Option Value) (h : List UInt8 → List RX) (ps : List PD) (x : TxD) (e : Ending) (w' : World) : Prop :=
  ∃ (kk : Nat) (p : PD) (pv' : Value) (Mut' : Nat → Prop), ps[kk]? = some p ∧ p.tx = x ∧ e = .returned (.tuple #[p.v, .bool true]) ∧ TabAt B (fun b => N b ∨ w.heap.size ≤ b) w' A M n f h pv' (ps.take kk ++ ps.drop (kk + 1)) Mut' ∧
    OwnR B w' p.rv p.xs ∧ (∀ b, p.rv.ownBlock = some b → ¬ Mut' b) ∧ (∀ y ∈ p.xs, FixR (fun b => N b ∨ w.heap.size ≤ b) Mut' w' y) ∧ Keeps (fun b => ¬ N b) w w'
set_option maxRecDepth 100000 in
set_option maxHeartbeats 2000000 in
theorem tab_take (t : TabAt B N w A M n f h pv ps Mut) (x : TxD) (hl : ps.length ≤ 4398046511104) (hh : hasP ps x = true) :
    Calls Tryd.prog 72 #[.pointer (some ⟨A, 0, none⟩), x.v] w (TakeTo B N w A M n f h ps x) := by
  have HL := hid hl; have HH := hid hh
  obtain ⟨hlt, hpx0⟩ := found_at t.rise hh
  obtain ⟨kk, hkk⟩ : ∃ kk, kk = placeP ps x := ⟨_, rfl⟩
  have HKK := hid hkk
  obtain ⟨p, hp, hpx⟩ : ∃ p, ps[kk]? = some p ∧ p.tx = x := ⟨_, by rw [hkk]; exact List.getElem?_eq_getElem hlt, hpx0⟩
  have hkl : kk < ps.length := by omega
  have hpe : ps[kk] = p := (List.getElem?_eq_some_iff.1 hp).2
  have hpm : p ∈ ps := hpe ▸ List.getElem_mem hkl
  obtain ⟨a, c, hpv⟩ := t.own.slice
  subst hpv
  have hcap := t.own.len
  obtain ⟨g, cur, T0, hag, -, -, -⟩ := t.own.obj (by omega)
  subst hag
  have HAT : Hid (∀ w', Later w w' → PdAt w' g (kk * 4) p) := hid fun w' k => by
    obtain ⟨g', cur', T', hg', -, -, hc⟩ := (t.own.later k).obj (by omega)
    simp only [Option.some.injEq, Addr.mk.injEq, and_true] at hg'
    subst hg'
    obtain ⟨h1, h2, h3, h4⟩ := pdCells_get ps kk hkl
    rw [hpe] at h1 h2 h3 h4
    exact ⟨hc _ _ h1, hc _ _ h2, hc _ _ h3, hc _ _ h4⟩
  have HPE := hid (t.pend p hpm)
  obtain ⟨ra, rn, rc, hrv⟩ := t.slP p hpm
  have T := hid t
  have HP := hid hp; have HPX := hid hpx
  have HCC := hid hcap.2.1
  have HKL := hid hkl
  clear t hl hh hpx0 hlt hkk hp hpx hpe hpm hcap hkl
  have HX := hid (rfl : x = x)
  obtain ⟨k, s, z⟩ := x
  go_enter Tryd.func72, Tryd.ntmps72
  go_upto_region 1 with (fail)
  obtain ⟨w1, X, hw1, hX, hL1, hX1, hX2⟩ := two_new w k z s
  have HL1 := hid hL1; have HX1 := hid hX1; have HX2 := hid hX2
  have HXW : Hid (w.heap.size ≤ X + 1) := hid (by omega)
  rw [← hw1, ← hX]
  clear hw1 hX hL1 hX1 hX2
  have x0 := cell_obj (i := 0) HX1.out (v := .int .i64 k) rfl
  have x1 := cell_obj (i := 1) HX1.out (v := .string (strB s)) rfl
  have x2 := cell_obj (i := 2) HX1.out (v := .int .i64 z) rfl
  have hlx := cell_lt x0
  go_wp2_with fail
  refine (tab_find (T.out.later HL1.out) ⟨k, s, z⟩ HL.out).mono ?_
  rintro e w2 ⟨rfl, hL⟩
  rw [HH.out, ← HKK.out]
  have HX3 := hid (hL.obj HX2.out)
  have HL2 := hid (Later.trans _ _ _ HL1.out hL)
  clear hL x0 x1 x2 hlx
  obtain ⟨p1, p2, p3, p4⟩ := HAT.out w2 HL2.out
  rw [hrv] at p4
  have T2 := hid (T.out.later HL2.out)
  have c1 := T2.out.c1
  have hAl := T2.out.lt
  have hgl := cell_lt p1
  have hcc := HCC.out
  have hkl := HKL.out
  go_upto_region 5 with (fail)
  obtain ⟨w3, hw3⟩ : ∃ w3, w3 = w2.alloc (.cells #[.int .i64 p.tx.mark, .string (strB p.tx.sink), .int .i64 p.tx.task, .slice ra rn rc] 137 (0, 0)) := ⟨_, rfl⟩
  obtain ⟨Y, hY⟩ : ∃ Y, Y = w2.heap.size := ⟨_, rfl⟩
  have hL3 : Later w2 w3 := by rw [hw3]; exact Later.alloc _ _
  have hY3 : w3.heap[Y]? = some (.cells #[.int .i64 p.tx.mark, .string (strB p.tx.sink), .int .i64 p.tx.task, .slice ra rn rc] 137 (0, 0)) := by rw [hw3, hY]; exact obj_new _ _
  have HYS := hid hY
  rw [← hw3, ← hY]
  have HL3 := hid (Later.trans _ _ _ HL2.out hL3)
  have HY3 := hid hY3
  have HX4 := hid (hL3.obj HX3.out)
  have T3 := hid (T2.out.later hL3)
  have HWK : Hid (wrap64 ((kk : Int) + 1) = ((kk + 1 : Nat) : Int)) := hid (by have h1 := HL.out; have h2 := HKL.out; unfold wrap64; omega)
  clear hw3 hY hL3 hY3 p1 p2 p3 p4 c1 hAl hgl hcc hkl T2 HX3
  have c1 := T3.out.c1
  have hAl := T3.out.lt
  go_wp2_with fail
  simp only [HWK.out]
  refine (delete_pd B g c ps T.out.slP.one w3 T3.out.own kk HKL.out).mono ?_
  rintro e w4 ⟨rfl, ho4, hk4⟩
  have HO4 := hid ho4; have HK4 := hid hk4
  have HPG : Hid (∀ b, b ≠ A → b < w.heap.size → b ≠ g → b < w3.heap.size) := hid fun b _ hb _ => Nat.lt_of_lt_of_le hb HL3.out.size
  have hAg : A ≠ g := fun e => T.out.pvA (by rw [e]; rfl)
  have HAG := hid hAg
  have ha4 := hk4.obj hAg T3.out.obj
  have HA4 := hid ha4
  have d1 := cell_obj (i := 1) ha4 rfl
  have f1 := free_obj (i := 1) ha4
  have hl4 := cell_lt d1
  obtain ⟨L4, hL4⟩ : ∃ L4, L4 = ps.length - 1 := ⟨_, rfl⟩
  rw [← hL4] at HO4 ⊢
  clear ho4 hk4 hAg ha4 hL4 c1 hAl
  go_upto_region 6 with (fail)
  change Code.wp _ _ _ _ (w4.setCell ⟨A, 1, none⟩ (.slice (some ⟨g, 0, none⟩) L4 c))
  obtain ⟨w5, hw5⟩ : ∃ w5, w5 = w4.setCell ⟨A, 1, none⟩ (.slice (some ⟨g, 0, none⟩) L4 c) := ⟨_, rfl⟩
  have HK5 : Hid (Keeps (fun b => b ≠ A) w4 w5) := hid (by rw [hw5]; exact (Keeps.refl (fun b => b ≠ A) w4).setCell (p := ⟨A, 1, none⟩) (.inl fun h => h rfl) _)
  have HO5 : Hid (w5.heap[A]? = some (.cells #[.map (some M), .slice (some ⟨g, 0, none⟩) L4 c] 132 (0, 0))) := hid (by rw [hw5]; exact obj_setCell (i := 1) HA4.out _)
  rw [← hw5]
  clear hw5 d1 f1 hl4
  have hgl : g < w.heap.size := (ownb T.out.own g rfl).2
  have hAlt := T.out.lt
  have hwz := HL2.out.size
  have hYA : Y ≠ A := by have := HYS.out; omega
  have hYg : Y ≠ g := by have := HYS.out; omega
  have hXA : X + 1 ≠ A := by have := HXW.out; omega
  have hXg : X + 1 ≠ g := by have := HXW.out; omega
  have HY5 := hid (HK5.out.obj hYA (HK4.out.obj hYg HY3.out))
  have HX5 := hid (HK5.out.obj hXA (HK4.out.obj hXg HX4.out))
  have HK35 : Hid (Keeps (fun b => b ≠ g ∧ b ≠ A) w3 w5) := hid ((HK4.out.mono fun b _ hb => hb.1).trans (HK5.out.mono fun b _ hb => hb.2))
  clear hgl hAlt hwz hYA hYg hXA hXg HX4 HY3
  have q0 := cell_obj (i := 0) HY5.out (v := .int .i64 p.tx.mark) rfl
  have q1 := cell_obj (i := 1) HY5.out (v := .string (strB p.tx.sink)) rfl
  have q2 := cell_obj (i := 2) HY5.out (v := .int .i64 p.tx.task) rfl
  have q3 := cell_obj (i := 3) HY5.out (v := .slice ra rn rc) rfl
  have hql := cell_lt q0
  have y0 := cell_obj (i := 0) HX5.out (v := .int .i64 0) rfl
  have y1 := cell_obj (i := 1) HX5.out (v := .string ⟨#[]⟩) rfl
  have y2 := cell_obj (i := 2) HX5.out (v := .int .i64 0) rfl
  have y3 := cell_obj (i := 3) HX5.out (v := .slice none 0 0) rfl
  have hly := cell_lt y0
  have hf := fun j => free_obj (i := j) HX5.out
  go_wp2_with fail
  obtain ⟨w6, hw6, h6, hk6⟩ := put_four HX5.out (.int .i64 p.tx.mark) (.string (strB p.tx.sink)) (.int .i64 p.tx.task) (.slice ra rn rc)
  change bodyPost _ _ _ _ _ ((((w5.setCell ⟨X + 1, 0, none⟩ (.int .i64 p.tx.mark)).setCell ⟨X + 1, 1, none⟩ (.string (strB p.tx.sink))).setCell ⟨X + 1, 2, none⟩ (.int .i64 p.tx.task)).setCell ⟨X + 1, 3, none⟩ (.slice ra rn rc))
  rw [← hw6]
  have HK6 : Hid (Keeps (fun b => b ≠ X + 1) w5 w6) := hid (by rw [hw6]; exact ((((Keeps.refl (fun b => b ≠ X + 1) w5).setCell (p := ⟨X + 1, 0, none⟩) (.inl fun h => h rfl) _).setCell (p := ⟨X + 1, 1, none⟩) (.inl fun h => h rfl) _).setCell (p := ⟨X + 1, 2, none⟩) (.inl fun h => h rfl) _).setCell (p := ⟨X + 1, 3, none⟩) (.inl fun h => h rfl) _)
  clear hw6 hk6 y0 y1 y2 y3 hly hf q0 q1 q2 q3 hql
  have z0 := cell_obj (i := 0) h6 (v := .int .i64 p.tx.mark) rfl
  have z1 := cell_obj (i := 1) h6 (v := .string (strB p.tx.sink)) rfl
  have z2 := cell_obj (i := 2) h6 (v := .int .i64 p.tx.task) rfl
  have z3 := cell_obj (i := 3) h6 (v := .slice ra rn rc) rfl
  have hgl : g < w.heap.size := (ownb T.out.own g rfl).2
  have hXA : A ≠ X + 1 := by have := HXW.out; have := T.out.lt; omega
  have hXg : g ≠ X + 1 := by have := HXW.out; omega
  have hXw := HXW.out
  have hk : Keeps (fun b => some b ≠ (Value.slice (some ⟨g, 0, none⟩) ps.length c).ownBlock ∧ b ≠ A) w w6 :=
    (((HL3.out.keeps (fun b => b ≠ g ∧ b ≠ A ∧ b ≠ X + 1)).trans (HK35.out.mono fun b _ hb => ⟨hb.1, hb.2.1⟩)).trans (HK6.out.mono fun b _ hb => hb.2.2)).mono fun b hlt hb => ⟨fun e => hb.1 (by rw [e]; rfl), hb.2, by omega⟩
  have ho6 := HK6.out.obj hXA HO5.out
  have hAg := HAG.out
  have how6 := (HO4.out.keep HK5.out fun b hb => by
    have : b = g := by simpa [Value.ownBlock] using hb.symm
    rw [this]; exact fun e => hAg e.symm).keep HK6.out fun b hb => by
      have : b = g := by simpa [Value.ownBlock] using hb.symm
      rw [this]; exact hXg
  refine bodyPost_ret (v := .tuple #[p.v, .bool true]) (by simp [results, Tryd.results72, go_sem, z0, z1, z2, z3, PD.v, hrv] <;> rfl) rfl ?_
  have hS : ∀ b, N b → ¬ Mut b → some b ≠ (Value.slice (some ⟨g, 0, none⟩) ps.length c).ownBlock ∧ b ≠ A := fun b _ hm => ⟨fun e => hm (T.out.mP b e.symm), fun e => hm (e ▸ T.out.mA)⟩
  obtain ⟨e1, e2, e3⟩ := HPE.out
  refine ⟨kk, p, _, (fun b => Mut b ∨ (Value.slice (some ⟨g, 0, none⟩) L4 c).ownBlock = some b), HP.out, HPX.out, rfl, T.out.turn hk ho6 how6 (del_rise T.out.rise kk) (.inl rfl) (fun q hq => .inl ?_), owns_keep e1 hk fun b hb => hS b (e2 b hb).1 (e2 b hb).2, fun b hb e => e.elim (e2 b hb).2 fun e => (hS b (e2 b hb).1 (e2 b hb).2).1 (by rw [← e]; rfl), fun y hy => (e3 y hy).keep hk fun b h1 h2 h3 => ⟨hS b h1 h2, .inl h1, fun e => e.elim h2 fun e => (hS b h1 h2).1 (by rw [← e]; rfl)⟩, T.out.touchP hk⟩
  rcases List.mem_append.1 hq with hq | hq
  · exact List.mem_of_mem_take hq
  · exact List.mem_of_mem_drop hq
end Go.Proofs.YtcmpjdnbjhkhdaaDoor
namespace Go.Proofs.YtcmpjdnbjhkhdaaDoor
set_option linter.unusedSimpArgs false
set_option linter.unusedVariables false
open Go.RowKit

variable {B : Nat} {N : Nat → Prop} {w w' : World} {A M n : Nat} {f : List UInt8 → Option Value} {h : List UInt8 → List RX} {pv : Value} {ps : List PD} {Mut : Nat → Prop}
def txCells (l : List TxD) : List Value := l.flatMap TxD.cells
theorem txCells_length (l : List TxD) : (txCells l).length = l.length * 3 := by
  induction l with
  | nil => rfl
  | cons x l ih => simp only [txCells, List.flatMap_cons, List.length_append, TxD.cells, List.length_cons, List.length_nil] at ih ⊢; omega
theorem txCells_app (l m : List TxD) : txCells (l ++ m) = txCells l ++ txCells m := by unfold txCells; rw [List.flatMap_append]
theorem txCells_get : ∀ (l : List TxD) (i : Nat) (h : i < l.length), (txCells l)[i * 3]? = some (.int .i64 l[i].mark) ∧ (txCells l)[i * 3 + 1]? = some (.string (strB l[i].sink)) ∧ (txCells l)[i * 3 + 2]? = some (.int .i64 l[i].task)
  | x :: l, 0, _ => ⟨rfl, rfl, rfl⟩
  | x :: l, i + 1, h => by
    have ih := txCells_get l i (by simpa using h)
    have e : txCells (x :: l) = .int .i64 x.mark :: .string (strB x.sink) :: .int .i64 x.task :: txCells l := rfl
    rw [e, show (i + 1) * 3 = i * 3 + 1 + 1 + 1 by omega]
    exact ih
def OwnT (B : Nat) (w : World) (v : Value) (l : List TxD) : Prop := w.ownsRow B 72 3 v l.length (txCells l)
theorem OwnT.nil (B : Nat) (w : World) : OwnT B w (.slice none 0 0) [] := ⟨rfl, .inl ⟨rfl, rfl⟩⟩
theorem OwnT.slice {B : Nat} {w : World} {v : Value} {l : List TxD} (h : OwnT B w v l) : ∃ a c, v = .slice a l.length c := ownsRow_slice h
theorem OwnT.at {B c n i : Nat} {w : World} {a : Option Addr} {l : List TxD} (h : OwnT B w (.slice a n c) l) (hi : i < l.length) : ∃ g, a = some ⟨g, 0, none⟩ ∧ B ≤ g ∧ w.cell? ⟨g, i * 3, none⟩ = some (.int .i64 l[i].mark) ∧ w.cell? ⟨g, i * 3 + 1, none⟩ = some (.string (strB l[i].sink)) ∧ w.cell? ⟨g, i * 3 + 2, none⟩ = some (.int .i64 l[i].task) := by
  obtain ⟨hl, ⟨h, h0⟩ | ⟨g, cap', cur, hv, hb, hg, h1, h2, h3, h4⟩⟩ := h
  · omega
  · simp only [Value.slice.injEq] at hv
    obtain ⟨rfl, rfl, rfl⟩ := hv
    have hc : ∀ j u, (txCells l)[j]? = some u → w.cell? ⟨g, j, none⟩ = some u := fun j u hu => by
      refine cell_obj hg ?_
      rw [← h4, List.getElem?_take] at hu
      split at hu
      · simpa using hu
      · cases hu
    obtain ⟨q1, q2, q3⟩ := txCells_get l i hi
    exact ⟨g, rfl, hb, hc _ _ q1, hc _ _ q2, hc _ _ q3⟩
theorem infoTx : (Tryd.prog.info? 72).map (fun i => (i.zero, i.size, i.bytes)) = some (some (.agg #[.int .i64 0, .string ⟨#[]⟩, .int .i64 0]), 3, 32) := by kernel_rfl
theorem txElem : ElemInfo Tryd.prog 72 3 32 := ElemInfo.of infoTx rfl (by decide)
theorem tx_ones (x : TxD) : ∀ u ∈ x.cells, u.oneCell' = true := by
  intro u hu
  simp only [TxD.cells, List.mem_cons, List.not_mem_nil, or_false] at hu
  rcases hu with rfl | rfl | rfl <;> rfl
def PreparedTo (w : World) (ps : List PD) (e : Ending) (w' : World) : Prop := ∃ v, e = .returned v ∧ OwnT w.heap.size w' v (ps.map PD.tx) ∧ Later w w'
set_option maxRecDepth 100000 in
set_option maxHeartbeats 2000000 in
theorem tab_prepared (t : TabAt B N w A M n f h pv ps Mut) (hl : ps.length ≤ 1048576) : Calls Tryd.prog 42 #[.pointer (some ⟨A, 0, none⟩)] w (PreparedTo w ps) := by
  have HL := hid hl
  have c1 := t.c1
  have hlt := t.lt
  have HSL := hid t.slP
  obtain ⟨p, c, hpv, hlc, hcm, -, he⟩ := t.own.ps
  have HE := hid he
  rw [hpv] at c1
  clear t hl he hpv hlc hcm
  go_enter Tryd.func42, Tryd.ntmps42
  go_wp2_with fail
  clear c1 hlt
  obtain ⟨R1, hR1⟩ : ∃ RR_ : (Nat → Value) → World → Prop, RR_ = (fun us wx => ∃ (k : Nat) (a : Option Addr) (c : Nat), us 10 = .int .i64 k ∧ us 2 = .slice a k c ∧ k ≤ ps.length ∧ OwnT w.heap.size wx (.slice a k c) ((ps.take k).map PD.tx) ∧ Later w wx) := ⟨_, rfl⟩
  obtain ⟨mu1, hmu1⟩ : ∃ mu : (Nat → Value) → World → Nat, mu = (fun us _ => ps.length - (intOf (us 10)).toNat) := ⟨_, rfl⟩
  have HR1 := hid hR1; have Hmu1 := hid hmu1; clear hR1 hmu1
  refine wp_loop_frame' [false, false, true, false, true, false, false, false, false, false, true, true, true, true, true, true, true, true, true, true] R1 _ mu1 HR1.out ?_ ?_
  · exact ⟨0, none, 0, rfl, rfl, Nat.zero_le _, OwnT.nil _ _, Later.refl _⟩
  intro us1 wx hrel
  obtain ⟨k, a, c1, h10, h2, hk, ho, hL⟩ := hrel
  simp only [frameOf, Nat.reduceAdd, h10, h2]
  have Hh10 := hid h10; clear h10
  have Hh2 := hid h2; clear h2
  have HK := hid hk; have HO := hid ho; have HLX := hid hL
  have HTL : Hid (((ps.take k).map PD.tx).length = k) := hid (by rw [List.length_map, List.length_take]; omega)
  clear hk ho hL
  obtain ⟨TL, hTL⟩ : ∃ TL, TL = (ps.take k).map PD.tx := ⟨_, rfl⟩
  have HTLE := hid hTL
  rw [← hTL] at HO HTL
  clear hTL
  by_cases hlt : k < ps.length
  · have HLT := hid hlt
    have HWK : Hid (wrap64 ((k : Int) + 1) = ((k + 1 : Nat) : Int)) := hid (by have := HL.out; unfold wrap64; omega)
    obtain ⟨b, o, rfl, -, e1⟩ := HE.out k hlt
    obtain ⟨p1, p2, p3, p4⟩ := e1.later HLX.out
    have HTK : Hid ((ps.take (k + 1)).map PD.tx = TL ++ [(ps[k]'HLT.out).tx]) := hid (by rw [HTLE.out, List.take_succ_eq_append_getElem hlt, List.map_append]; rfl)
    obtain ⟨ra, rn, rc, hrv⟩ := HSL.out _ (List.getElem_mem hlt)
    have hlb := cell_lt p1
    clear e1
    generalize ps[k] = y at p1 p2 p3 p4 HTK hrv
    obtain ⟨⟨yk, yn, yt⟩, yv, yx⟩ := y
    simp only at p1 p2 p3 p4 hrv
    subst hrv
    go_upto_region 4 with (fail)
    obtain ⟨w2, hw2⟩ : ∃ w2, w2 = wx.alloc (.cells #[.int .i64 yk, .string (strB yn), .int .i64 yt, .slice ra rn rc] 137 (0, 0)) := ⟨_, rfl⟩
    obtain ⟨X, hX⟩ : ∃ X, X = wx.heap.size := ⟨_, rfl⟩
    have hL2 : Later wx w2 := by rw [hw2]; exact Later.alloc _ _
    have hX2 : w2.heap[X]? = some (.cells #[.int .i64 yk, .string (strB yn), .int .i64 yt, .slice ra rn rc] 137 (0, 0)) := by rw [hw2, hX]; exact obj_new _ _
    rw [← hw2, ← hX]
    have HL2 := hid (Later.trans _ _ _ HLX.out hL2)
    have HO2 : Hid (w2.ownsRow w.heap.size 72 3 (.slice a k c1) k (txCells TL)) := hid (by have h := HO.out; unfold OwnT at h; rw [HTL.out] at h; exact owns_at h hL2)
    have x0 := cell_obj (i := 0) hX2 (v := .int .i64 yk) rfl
    have x1 := cell_obj (i := 1) hX2 (v := .string (strB yn)) rfl
    have x2 := cell_obj (i := 2) hX2 (v := .int .i64 yt) rfl
    have hlx := cell_lt x0
    clear hw2 hX hL2 hX2 p1 p2 p3 p4 hlb HO HLX
    go_wp2_with (at_builtin; go_loud (refine wpList_append_obj rfl _ _ 89 rfl 72 3 32 Tryd.underlying89 txElem rfl (owns_at HO2.out (Later.alloc _ _)) (news := TxD.cells ⟨yk, yn, yt⟩) rfl (obj_new w2 _) rfl (tx_ones _) ?c1 ?c2 ?c3 ?_))
    case c1 => have := HLT.out; have := HL.out; omega
    case c2 => have := HLT.out; have := HL.out; unfold maxLen; omega
    case c3 => have := HL2.out.size; first | omega | (rw [World.size_alloc]; omega)
    intro v3 w3 hA
    have HL3 := hid (hA.later (owns_at HO2.out (Later.alloc _ _)) (Later.trans _ _ _ HL2.out (Later.alloc _ _)) (Nat.le_refl _))
    have HO3 : Hid (OwnT w.heap.size w3 v3 ((ps.take (k + 1)).map PD.tx)) := hid (by
      unfold OwnT
      rw [HTK.out, List.length_append, HTL.out, txCells_app]
      have e : txCells [(⟨yk, yn, yt⟩ : TxD)] = TxD.cells ⟨yk, yn, yt⟩ := by simp [txCells]
      rw [e]
      have h := hA.own
      exact h)
    clear hA x0 x1 x2 hlx
    obtain ⟨a3, c3, hv3⟩ := HO3.out.slice
    have e3 : ((ps.take (k + 1)).map PD.tx).length = k + 1 := by rw [HTK.out, List.length_append, HTL.out]; rfl
    rw [e3] at hv3
    subst hv3
    go_wp2_with fail
    try simp only [HWK.out]
    refine Round.mk' HR1.out Hmu1.out rfl ?_ ?_
    · exact ⟨k + 1, a3, c3, rfl, rfl, HLT.out, HO3.out, HL3.out⟩
    · rw [Hh10.out]; have := HLT.out; simp [intOf, slots]; omega
  · have hke : k = ps.length := by have := HK.out; omega
    subst hke
    go_wp2_with fail
    go_ret
    refine ⟨_, rfl, ?_, HLX.out⟩
    have h := HO.out
    rw [HTLE.out, List.take_length] at h
    exact h
theorem sumP_succ {ps : List PD} {k : Nat} (hk : k < ps.length) : ((ps.take (k + 1)).map fun p => p.xs.length).sum = ((ps.take k).map fun p => p.xs.length).sum + ps[k].xs.length := by
  rw [List.take_succ_eq_append_getElem hk, List.map_append, List.sum_append]
  simp
theorem sumP_take (ps : List PD) (k : Nat) : ((ps.take k).map fun p => p.xs.length).sum ≤ (ps.map fun p => p.xs.length).sum := by
  have h : ((ps.take k).map fun p => p.xs.length).sum + ((ps.drop k).map fun p => p.xs.length).sum = (ps.map fun p => p.xs.length).sum := by
    rw [← List.sum_append, ← List.map_append, List.take_append_drop]
  omega
def WaitingTo (w : World) (ps : List PD) (e : Ending) (w' : World) : Prop := e = .returned (.int .i64 (((ps.map fun p => p.xs.length).sum : Nat) : Int)) ∧ Later w w'
set_option maxRecDepth 100000 in
set_option maxHeartbeats 2000000 in
theorem tab_waiting (t : TabAt B N w A M n f h pv ps Mut) (hl : ps.length ≤ 1048576) (hs : (ps.map fun p => p.xs.length).sum ≤ 1048576) : Calls Tryd.prog 43 #[.pointer (some ⟨A, 0, none⟩)] w (WaitingTo w ps) := by
  have HL := hid hl; have HS := hid hs
  have c1 := t.c1
  have hlt := t.lt
  have HSL : Hid (∀ p ∈ ps, ∃ a c, p.rv = .slice a p.xs.length c) := hid fun p hp => ownsRow_slice (t.pend p hp).1
  obtain ⟨p, c, hpv, hlc, hcm, -, he⟩ := t.own.ps
  have HE := hid he
  rw [hpv] at c1
  clear t hl he hpv hlc hcm hs
  go_enter Tryd.func43, Tryd.ntmps43
  go_wp2_with fail
  clear c1 hlt
  obtain ⟨R1, hR1⟩ : ∃ RR_ : (Nat → Value) → World → Prop, RR_ = (fun us wx => ∃ (k : Nat), us 10 = .int .i64 k ∧ us 2 = .int .i64 ((((ps.take k).map fun p => p.xs.length).sum : Nat) : Int) ∧ k ≤ ps.length ∧ Later w wx) := ⟨_, rfl⟩
  obtain ⟨mu1, hmu1⟩ : ∃ mu : (Nat → Value) → World → Nat, mu = (fun us _ => ps.length - (intOf (us 10)).toNat) := ⟨_, rfl⟩
  have HR1 := hid hR1; have Hmu1 := hid hmu1; clear hR1 hmu1
  refine wp_loop_frame' [false, false, true, false, true, false, false, false, false, false, true, true, true, true, true, true, true, true, true, true] R1 _ mu1 HR1.out ?_ ?_
  · exact ⟨0, rfl, rfl, Nat.zero_le _, Later.refl _⟩
  intro us1 wx hrel
  obtain ⟨k, h10, h2, hk, hL⟩ := hrel
  simp only [frameOf, Nat.reduceAdd, h10, h2]
  have Hh10 := hid h10; clear h10
  have Hh2 := hid h2; clear h2
  have HK := hid hk; have HLX := hid hL
  clear hk hL
  obtain ⟨s, hs⟩ : ∃ s, s = ((ps.take k).map fun p => p.xs.length).sum := ⟨_, rfl⟩
  have HSE := hid hs
  have HSK : Hid (s ≤ 1048576) := hid (by rw [hs]; exact Nat.le_trans (sumP_take ps k) HS.out)
  rw [← hs] at Hh2 ⊢
  clear hs
  by_cases hlt : k < ps.length
  · have HLT := hid hlt
    have HWK : Hid (wrap64 ((k : Int) + 1) = ((k + 1 : Nat) : Int)) := hid (by have := HL.out; unfold wrap64; omega)
    obtain ⟨b, o, rfl, -, e1⟩ := HE.out k hlt
    obtain ⟨p1, p2, p3, p4⟩ := e1.later HLX.out
    have HTK : Hid (((ps.take (k + 1)).map fun p => p.xs.length).sum = s + (ps[k]'HLT.out).xs.length) := hid (by rw [sumP_succ hlt, HSE.out])
    have HTB : Hid (s + (ps[k]'HLT.out).xs.length ≤ 1048576) := hid (by rw [← HTK.out]; exact Nat.le_trans (sumP_take ps (k + 1)) HS.out)
    obtain ⟨ra, rc, hrv⟩ := HSL.out _ (List.getElem_mem hlt)
    have hlb := cell_lt p1
    clear e1
    generalize ps[k] = y at p1 p2 p3 p4 HTK HTB hrv
    obtain ⟨⟨yk, yn, yt⟩, yv, yx⟩ := y
    simp only at p1 p2 p3 p4 hrv HTK HTB
    subst hrv
    obtain ⟨rn, hrn⟩ : ∃ rn, rn = yx.length := ⟨_, rfl⟩
    rw [← hrn] at p4 HTK HTB
    clear hrn
    have HWS : Hid (wrap64 ((s : Int) + rn) = ((s + rn : Nat) : Int)) := hid (by have := HTB.out; unfold wrap64; omega)
    go_upto_region 4 with (fail)
    obtain ⟨w2, hw2⟩ : ∃ w2, w2 = wx.alloc (.cells #[.int .i64 yk, .string (strB yn), .int .i64 yt, .slice ra rn rc] 137 (0, 0)) := ⟨_, rfl⟩
    obtain ⟨X, hX⟩ : ∃ X, X = wx.heap.size := ⟨_, rfl⟩
    have hL2 : Later wx w2 := by rw [hw2]; exact Later.alloc _ _
    have hX2 : w2.heap[X]? = some (.cells #[.int .i64 yk, .string (strB yn), .int .i64 yt, .slice ra rn rc] 137 (0, 0)) := by rw [hw2, hX]; exact obj_new _ _
    rw [← hw2, ← hX]
    have HL2 := hid (Later.trans _ _ _ HLX.out hL2)
    have x3 := cell_obj (i := 3) hX2 (v := .slice ra rn rc) rfl
    have hlx := cell_lt x3
    clear hw2 hX hL2 hX2 p1 p2 p3 p4 hlb HLX
    go_wp2_with fail
    try simp only [HWK.out, HWS.out]
    refine Round.mk' HR1.out Hmu1.out rfl ?_ ?_
    · exact ⟨k + 1, rfl, by rw [HTK.out]; rfl, HLT.out, HL2.out⟩
    · rw [Hh10.out]; have := HLT.out; simp [intOf, slots]; omega
  · have hke : k = ps.length := by have := HK.out; omega
    subst hke
    go_wp2_with fail
    go_ret
    refine ⟨?_, HLX.out⟩
    rw [HSE.out, List.take_length]
    rfl
/-! rows -/
theorem OwnR.isRows {B : Nat} {w : World} {v : Value} {l : List RX} (h : OwnR B w v l) (k : ∀ x ∈ l, IsVals w x.v x.row.vals) : IsRows w v (l.map (·.row)) := by
  obtain ⟨a, c, rfl⟩ := ownsRow_slice h
  obtain ⟨hl, hh⟩ := h
  have hlen : l.length ≤ c ∧ c ≤ maxLen ∧ (a = none → c = 0) := by
    rcases hh with ⟨hv, h0⟩ | ⟨g, cap', cur, hv, hb, hg, h1, h2, h3, h4⟩
    · simp only [Value.slice.injEq] at hv
      obtain ⟨rfl, _, rfl⟩ := hv
      exact ⟨by omega, by unfold maxLen; omega, fun _ => rfl⟩
    · simp only [Value.slice.injEq] at hv
      obtain ⟨rfl, _, rfl⟩ := hv
      exact ⟨h1, h2, fun h => by cases h⟩
  refine ⟨a, c, by rw [List.length_map], by rw [List.length_map]; exact hlen.1, hlen.2.1, hlen.2.2, fun i hi => ?_⟩
  rw [List.length_map] at hi
  rcases hh with ⟨hv, h0⟩ | ⟨g, cap', cur, hv, hb, hg, h1, h2, h3, h4⟩
  · omega
  · simp only [Value.slice.injEq] at hv
    obtain ⟨rfl, _, rfl⟩ := hv
    have cell : ∀ j u, (rxCells l)[j]? = some u → w.cell? ⟨g, j, none⟩ = some u := fun j u hu => by
      refine cell_obj hg ?_
      rw [← h4, List.getElem?_take] at hu
      split at hu
      · simpa using hu
      · cases hu
    obtain ⟨q1, q2⟩ := rxCells_at l i hi
    rw [List.getElem_map]
    refine ⟨g, 0, rfl, trivial, ?_, l[i].v, ?_, k _ (List.getElem_mem hi)⟩
    · rw [Nat.zero_add]; exact cell _ _ q1
    · rw [Nat.zero_add]; exact cell _ _ q2
theorem zeroRs (w : World) : (zeroValue 73).run Tryd.prog w = .ok (.slice none 0 0) w := by kernel_rfl
theorem TabAt.rowsAt (t : TabAt B N w A M n f h pv ps Mut) (k : List UInt8) : IsRows w ((f k).getD nilS) ((h k).map (·.row)) := by
  cases hf : f k with
  | none => rw [t.gone k hf]; exact ⟨none, 0, rfl, Nat.le_refl _, by unfold maxLen; omega, fun _ => rfl, fun i hi => (by cases hi)⟩
  | some u => exact OwnR.isRows (t.held k u hf).1 fun x hx => (t.vals k x hx).is
theorem tab_rows (t : TabAt B N w A M n f h pv ps Mut) (k : List UInt8) (hk : k.length ≤ maxLen) (hl : (h k).length * 32 ≤ 140737488355328) (hr : ∀ x ∈ h k, x.row.vals.length * 32 ≤ 140737488355328) :
    Calls Tryd.prog 39 #[.pointer (some ⟨A, 0, none⟩), .string (strB k)] w (SortedTo w ((h k).map (·.row))) := by
  have T := hid t; have HK := hid hk
  have HIR := hid (t.rowsAt k)
  have HL1 : Hid (((h k).map (·.row)).length * 32 ≤ 140737488355328) := hid (by rw [List.length_map]; exact hl)
  have HR1 : Hid (∀ x ∈ (h k).map (·.row), x.vals.length * 32 ≤ 140737488355328) := hid fun x hx => by obtain ⟨y, hy, rfl⟩ := List.mem_map.1 hx; exact hr y hy
  have c0 := t.c0
  have hlt := t.lt
  clear t hk hl hr
  go_enter Tryd.func39, Tryd.ntmps39
  go_wp2_with (at_lookup; refine wpList_map_get Tryd.underlying129 zeroRs rfl _ _ rfl rfl T.out.map k HK.out rfl ?_)
  refine (sorted_rows _ _ _ HIR.out HL1.out HR1.out).mono ?_
  rintro e w2 ⟨v, xs, rfl, h2⟩
  have H2 := hid h2
  clear h2 c0 hlt
  obtain ⟨va, vc, rfl⟩ := ownsRow_slice H2.out.1
  go_wp2_with fail
  go_ret
  exact ⟨_, xs, rfl, H2.out⟩
end Go.Proofs.YtcmpjdnbjhkhdaaDoor
