/-
  PROVED HERE: the contracts of the methods Add and Value of what counts the different values.
-/
import Derived.Test.YtcmpjdnbjhkhdaaDoorAggFind
import Derived.Test.YtcmpjdnbjhkhdaaDoorAggIns
import Derived.Test.YtcmpjdnbjhkhdaaDoorAggAcc
namespace Go.Proofs.YtcmpjdnbjhkhdaaDoor
set_option linter.unusedSimpArgs false
set_option linter.unusedVariables false
open Go.RowKit

structure SetAt (w : World) (A base : Nat) (v : Value) (l : List Val) : Prop where
  obj : w.heap[A]? = some (.cells #[v] 167 (0, 0))
  own : w.ownsRow base 25 3 v l.length (valCells l)
  ne : v.ownBlock ≠ some A
theorem SetAt.keep {w w' : World} {A base : Nat} {v : Value} {l : List Val} {S : Nat → Prop} (h : SetAt w A base v l) (k : Keeps S w w') (hA : S A) (hs : ∀ g, v.ownBlock = some g → S g) : SetAt w' A base v l := ⟨k.obj hA h.obj, owns_keep h.own k hs, h.ne⟩
theorem SetAt.later {w w' : World} {A base : Nat} {v : Value} {l : List Val} (h : SetAt w A base v l) (k : Later w w') : SetAt w' A base v l := ⟨k.obj h.obj, owns_at h.own k, h.ne⟩
def SetTo (w : World) (A base : Nat) (v : Value) (l : List Val) (w' : World) : Prop :=
  ∃ v', SetAt w' A base v' l ∧ Keeps (fun b => b ≠ A ∧ some b ≠ v.ownBlock) w w' ∧ (v'.ownBlock = v.ownBlock ∨ ∀ b, v'.ownBlock = some b → w.heap.size ≤ b)
set_option maxRecDepth 100000 in
set_option maxHeartbeats 2000000 in
theorem set_add (A base : Nat) (v : Value) (l : List Val) (t : TV) (w : World) (h : SetAt w A base v l) (hs : SortedV l) (hlen : (l.length + 1) * 32 ≤ 140737488355328) (hbase : base ≤ w.heap.size) :
    Calls Tryd.prog 219 #[.pointer (some ⟨A, 0, none⟩), t.v] w fun e w' => e = .returned (.tuple #[]) ∧ SetTo w A base v (setP l t) w' := by
  obtain ⟨a1, ⟨k, n, tx⟩⟩ := t
  have HC := hid h; have HS := hid hs; have HLEN := hid hlen; have HBS := hid hbase
  have hlt := (Array.getElem?_eq_some_iff.1 h.obj).1
  obtain ⟨a, c, rfl⟩ := ownsRow_slice h.own
  clear h hs hlen hbase
  go_enter Tryd.func219, Tryd.ntmps219
  go_upto_region 1 with (fail)
  obtain ⟨w1, hw1⟩ : ∃ w1, w1 = w.alloc (.cells #[.int .i64 a1, .int .i64 k, .int .i64 n, .string tx] 36 (0, 0)) := ⟨_, rfl⟩
  obtain ⟨T, hT⟩ : ∃ T, T = w.heap.size := ⟨_, rfl⟩
  have HL1 : Hid (Later w w1) := hid (by rw [hw1]; exact Later.alloc _ _)
  have HT1 : Hid (w1.heap[T]? = some (.cells #[.int .i64 a1, .int .i64 k, .int .i64 n, .string tx] 36 (0, 0))) := hid (by rw [hw1, hT]; exact obj_new _ _)
  have HTS := hid hT
  rw [← hw1, ← hT]
  have HLT := hid hlt
  clear hw1 hT hlt
  have t1 := cell_obj (i := 1) HT1.out (v := .int .i64 k) rfl
  have t2 := cell_obj (i := 2) HT1.out (v := .int .i64 n) rfl
  have t3 := cell_obj (i := 3) HT1.out (v := .string tx) rfl
  have c0 := cell_obj (i := 0) (HL1.out.obj HC.out.obj) (v := .slice a l.length c) rfl
  have HV1 : Hid (IsVals w1 (.slice a l.length c) l) := hid ((owned_vals (owns_at HC.out.own HL1.out)).vals_mono (fun _ _ => trivial))
  have hl1 : A < w1.heap.size := cell_lt c0
  have hl2 : T < w1.heap.size := cell_lt t1
  refine wp_region_lex (by kernel_rfl) (by kernel_rfl) Later Later.refl Later.trans (kinds [(6, fun v _ => v = .tuple #[.int .i64 (placeV l ⟨k, n, tx⟩), .bool (hasV l ⟨k, n, tx⟩)])]) (kinds_still (by simp +contextual)) ?_
  simp only [numbered, Nat.reduceAdd]
  refine LexS.out ?_
  iterate 6
    first
    | (refine LexS.skip rfl ?_; simp only [Act.put, List.setIfInBounds_toArray, List.set])
    | (refine LexS.one' rfl rfl ?_
       apply Exists.intro
       refine ⟨fun w hR hF => ?_, ?_⟩
       · have hP := hR
         repeat (first | replace hP := Later.of_drew hP | replace hP := Later.of_drewN hP | replace hP := Later.of_alloc hP)
         have hcs := hR.cells
         have zc0 := hP.cell c0
         have zt1 := hP.cell t1
         have zt2 := hP.cell t2
         have zt3 := hP.cell t3
         clear hR hF hP
         go_simp
         first | done | rfl
       simp only [Act.put, List.setIfInBounds_toArray, List.set])
  refine LexS.anyEq rfl rfl (fun w hR hF => ?_) ?_
  · have hP := hR
    repeat (first | replace hP := Later.of_drew hP | replace hP := Later.of_drewN hP | replace hP := Later.of_alloc hP)
    have hcs := hR.cells
    clear hF hR
    unfold Runs
    go_simp
    unfold Yield
    refine (find_any l ⟨k, n, tx⟩ _ _ (HV1.out.later hP) HS.out (by have := HLEN.out; omega)).mono ?_
    rintro e w' ⟨rfl, hL⟩
    exact ⟨_, rfl, hL, rfl⟩
  simp only [Act.put, List.setIfInBounds_toArray, List.set]
  iterate 5
    first
    | (refine LexS.skip rfl ?_; simp only [Act.put, List.setIfInBounds_toArray, List.set])
    | (refine LexS.one' rfl rfl ?_
       apply Exists.intro
       refine ⟨fun w hR hF => ?_, ?_⟩
       · have hP := hR
         repeat (first | replace hP := Later.of_drew hP | replace hP := Later.of_drewN hP | replace hP := Later.of_alloc hP)
         have hcs := hR.cells
         clear hR hF hP
         go_simp
         first | done | rfl
       simp only [Act.put, List.setIfInBounds_toArray, List.set])
  refine LexS.nil ?_
  intro w2 hR2 hF9
  clear hF9
  repeat (first | replace hR2 := Later.of_drew hR2 | replace hR2 := Later.of_drewN hR2 | replace hR2 := Later.of_alloc hR2)
  have HL2 := hid (Later.trans _ _ _ HL1.out hR2)
  have HT2 := hid (hR2.obj HT1.out)
  clear hR2 t1 t2 t3 c0 hl1 hl2 HV1 HL1 HT1
  have HPL := hid (place_le l ⟨k, n, tx⟩)
  have HSP : Hid (setP l ⟨a1, ⟨k, n, tx⟩⟩ = if k ≠ 0 ∧ hasV l ⟨k, n, tx⟩ = false then l.take (placeV l ⟨k, n, tx⟩) ++ ⟨k, n, tx⟩ :: l.drop (placeV l ⟨k, n, tx⟩) else l) := hid rfl
  have t1 := cell_obj (i := 1) HT2.out (v := .int .i64 k) rfl
  have hl2 : T < w2.heap.size := cell_lt t1
  generalize hp : placeV l ⟨k, n, tx⟩ = pp at *
  generalize hh : hasV l ⟨k, n, tx⟩ = has at *
  clear hp
  have HST : ∀ e, Keeps (fun b => b ≠ A ∧ some b ≠ (Value.slice a l.length c).ownBlock) w w2 → setP l ⟨a1, ⟨k, n, tx⟩⟩ = l → e = Ending.returned (.tuple #[]) → e = Ending.returned (.tuple #[]) ∧ SetTo w A base (.slice a l.length c) (setP l ⟨a1, ⟨k, n, tx⟩⟩) w2 := fun e hk h1 he => by
    rw [h1]
    exact ⟨he, _, HC.out.later HL2.out, hk, .inl rfl⟩
  have HST := hid HST
  cases has with
  | true =>
    clear hh
    go_wp2_with fail
    exact bodyPost_end (v := .tuple #[]) (by simp [results, Tryd.results219, go_sem]) rfl (HST.out _ (HL2.out.keeps _) (by rw [HSP.out, if_neg (by rintro ⟨_, h⟩; cases h)]) rfl)
  | false =>
    clear hh
    by_cases hk : k = 0
    · subst hk
      go_wp2_with fail
      exact bodyPost_end (v := .tuple #[]) (by simp [results, Tryd.results219, go_sem]) rfl (HST.out _ (HL2.out.keeps _) (by rw [HSP.out, if_neg (by rintro ⟨h, _⟩; exact h rfl)]) rfl)
    · have hkb : (k != 0) = true := by simpa using hk
      replace HSP : Hid (setP l ⟨a1, ⟨k, n, tx⟩⟩ = l.take pp ++ ⟨k, n, tx⟩ :: l.drop pp) := hid (by rw [HSP.out, if_pos ⟨hk, rfl⟩])
      clear hk HST
      go_upto_region 3 with (fail)
      have t2 := cell_obj (i := 2) HT2.out (v := .int .i64 n) rfl
      have t3 := cell_obj (i := 3) HT2.out (v := .string tx) rfl
      have c0 := cell_obj (i := 0) (HL2.out.obj HC.out.obj) (v := .slice a l.length c) rfl
      have hl1 : A < w2.heap.size := cell_lt c0
      refine wp_region_plan (by kernel_rfl) (by kernel_rfl) [0] [9, 10, 11, 12] (by kernel_rfl) (fun _ _ d _ _ h => by cases d <;> exact h) (Later) (Later.refl) (Later.trans) (kinds [(8, fun v w => ∃ b, v = .slice (some ⟨b, 0, none⟩) 1 1 ∧ w2.heap.size ≤ b ∧ w.heap[b]? = some (.cells #[.int .i64 k, .int .i64 n, .string tx] 25 (0, 0)))]) (kinds_still (by simp only [List.mem_cons, List.not_mem_nil, or_false, forall_eq_or_imp, forall_eq]; exact fun _ _ _ hR ⟨b, h, h0, h'⟩ => ⟨b, h, h0, hR.obj h'⟩)) ?_
      simp only [body, tail, numbered, Nat.reduceAdd, List.filter_cons, List.filter_nil, List.contains_cons, List.contains_nil, Nat.reduceBEq, Bool.or_false, Bool.or_true, Bool.false_or, Bool.true_or, Bool.not_true, Bool.not_false, Bool.and_true, Bool.and_false, Bool.true_and, Bool.false_and, if_true, if_false, reduceIte, Bool.false_eq_true, List.map_cons, List.map_nil]
      refine Pures.cons rfl ?_
      apply Exists.intro
      refine ⟨fun w => ?_, ?_⟩
      · go_simp
        first | done | rfl
      simp only [Act.put, List.setIfInBounds_toArray, List.set]
      simp only [Pures]
      refine LexS.out ?_
      iterate 7
        first
        | (refine LexS.skip rfl ?_; simp only [Act.put, List.setIfInBounds_toArray, List.set])
        | (refine LexS.one' rfl rfl ?_
           apply Exists.intro
           refine ⟨fun w hR hF => ?_, ?_⟩
           · have hP := hR
             repeat (first | replace hP := Later.of_drew hP | replace hP := Later.of_drewN hP | replace hP := Later.of_alloc hP)
             have hcs := hR.cells
             have zt1 := hP.cell t1
             have zt2 := hP.cell t2
             have zt3 := hP.cell t3
             have zc0 := hP.cell c0
             clear hR hF hP
             go_simp
             first | done | rfl
           simp only [Act.put, List.setIfInBounds_toArray, List.set])
      refine LexS.any rfl rfl (fun w hR hF => ?_) ?_
      · have hsz := hR.size
        clear hF hR
        unfold Runs
        go_simp
        exact yield_value (Later.alloc _ _) ⟨_, rfl, hsz, obj_new _ _⟩
      rintro v15 ⟨w3, hR3, hF3⟩
      obtain ⟨b, rfl, -, -⟩ := hF3 _ List.mem_cons_self _ rfl
      clear hF3 hR3 w3
      simp only [Act.put, List.setIfInBounds_toArray, List.set]
      refine LexS.nil ?_
      intro w4 hR4 hF4
      obtain ⟨b', hb', hsz, h15⟩ := hF4 _ List.mem_cons_self _ rfl
      simp only [Value.slice.injEq, Option.some.injEq, Addr.mk.injEq] at hb'
      obtain ⟨⟨rfl, -, -⟩, -, -⟩ := hb'
      repeat (first | replace hR4 := Later.of_drew hR4 | replace hR4 := Later.of_drewN hR4 | replace hR4 := Later.of_alloc hR4)
      have HL4 := hid (Later.trans _ _ _ HL2.out hR4)
      have HB4 := hid h15
      have HBZ : Hid (w.heap.size ≤ b) := hid (Nat.le_trans HL2.out.size hsz)
      have HC4 := hid (HC.out.later HL4.out)
      clear hF4 h15 hsz hR4 t1 t2 t3 c0 hl1 hl2 HL2 HT2
      change wpList _ _ _ _ _ _
      go_wp2_with fail
      refine (ins_any ⟨k, n, tx⟩ l pp _ base b _ _ HC4.out.own HB4.out (fun e => by have := (ownb HC.out.own b e).2; have := HBZ.out; omega) HPL.out HLEN.out (Nat.le_trans HBS.out HL4.out.size)).mono ?_
      rintro e w5 ⟨v5, rfl, ho5, hk5, hb5⟩
      obtain ⟨a5, d5, rfl⟩ := ownsRow_slice ho5
      have HO5 := hid ho5; have HK5 := hid hk5; have HB5 := hid hb5
      have HA5 : Hid (w5.heap[A]? = some (.cells #[.slice a l.length c] 167 (0, 0))) := hid (hk5.obj (fun e => HC4.out.ne e.symm) HC4.out.obj)
      have c5 := cell_obj (i := 0) HA5.out (v := .slice a l.length c) rfl
      have f5 := free_obj (i := 0) HA5.out
      have hl5 : A < w5.heap.size := cell_lt c5
      clear ho5 hk5 hb5
      go_wp2_with fail
      refine bodyPost_end (v := .tuple #[]) (by simp [results, Tryd.results219, go_sem]) rfl ⟨rfl, ?_⟩
      rw [HSP.out]
      have hne5 : (Value.slice a5 (l.length + 1) d5).ownBlock ≠ some A := by
        rcases HB5.out with h | h
        · rw [h]; exact HC4.out.ne
        · intro e
          have := h A e
          have := HL4.out.size
          have := HLT.out
          omega
      have hlen5 : (l.take pp ++ ⟨k, n, tx⟩ :: l.drop pp).length = l.length + 1 := by
        have := HPL.out
        simp
        omega
      refine ⟨.slice a5 (l.length + 1) d5, ⟨obj_setCell (i := 0) HA5.out _, ?_, hne5⟩, ?_, ?_⟩
      · rw [hlen5]
        exact own_set HO5.out hne5 _
      · refine (((HL4.out.keeps _).trans (HK5.out.mono fun b _ hb => hb.2)).setCell (p := ⟨A, 0, none⟩) (.inl fun h => h.1 rfl) _)
      · rcases HB5.out with h | h
        · exact .inl h
        · exact .inr fun b e => Nat.le_trans HL4.out.size (h b e)
set_option maxRecDepth 100000 in
theorem set_val (A base : Nat) (v : Value) (l : List Val) (w : World) (h : SetAt w A base v l) : Calls Tryd.prog 222 #[.pointer (some ⟨A, 0, none⟩)] w (ValTo (intV l.length) w) := by
  obtain ⟨a, c, rfl⟩ := ownsRow_slice h.own
  have c0 := cell_obj (i := 0) h.obj (v := .slice a l.length c) rfl
  have hlt := (Array.getElem?_eq_some_iff.1 h.obj).1
  clear h
  go_enter Tryd.func222, Tryd.ntmps222
  go_wp2_with fail
  refine (of_any l.length _).mono ?_
  rintro e w1 ⟨rfl, hL1⟩
  have HX := hid (hL1.obj (obj_new w _))
  have HL := hid (Later.trans _ _ _ (Later.alloc _ _) hL1)
  have hs := hL1.size
  have fr := free_obj (i := 0) HX.out
  have fr1 := free_obj (i := 1) HX.out
  have fr2 := free_obj (i := 2) HX.out
  have x0 := cell_obj (i := 0) HX.out rfl
  have x1 := cell_obj (i := 1) HX.out rfl
  have x2 := cell_obj (i := 2) HX.out rfl
  clear hL1 hs
  go_wp2_with fail
  obtain ⟨wf, hwf⟩ : ∃ wf, wf = put3 w1 w.heap.size (intV l.length) := ⟨_, rfl⟩
  obtain ⟨e0, e1, e2⟩ := put3_cells HX.out (intV l.length)
  have HP := hid (put3_later HL.out (Nat.le_refl _) (intV l.length))
  rw [← hwf] at e0 e1 e2 HP
  change bodyPost _ _ _ _ _ (put3 w1 w.heap.size (intV l.length))
  rw [← hwf]
  clear hwf x0 x1 x2 fr fr1 fr2
  exact bodyPost_ret (v := (intV l.length).v) (by simp [results, Tryd.results222, go_sem, e0, e1, e2]) rfl ⟨rfl, HP.out⟩
end Go.Proofs.YtcmpjdnbjhkhdaaDoor
