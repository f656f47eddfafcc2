/-
  PROVED HERE: the contract of the document's Copy: the row's values in a slice of the call's own.
-/
import Derived.Test.YtcmpjdnbjhkhdaaDoorSame
import Derived.Test.YtcmpjdnbjhkhdaaDoorOwn
namespace Go.Proofs.YtcmpjdnbjhkhdaaDoor
set_option linter.unusedSimpArgs false
set_option linter.unusedVariables false
open Go.RowKit

theorem valCells_take {l : List Val} {n : Nat} (h : n < l.length) : valCells (l.take n) ++ l[n].cells = valCells (l.take (n + 1)) := by
  unfold valCells
  rw [List.take_succ_eq_append_getElem h, List.flatMap_append, List.flatMap_cons, List.flatMap_nil, List.append_nil]
/-- a slice of one value alone. -/
def OneVal (x : Val) (u : Value) (W : World) : Prop := ∃ b, u = .slice (some ⟨b, 0, none⟩) 1 1 ∧ W.heap[b]? = some (.cells #[.int .i64 x.k, .int .i64 x.n, .string x.t] 25 (0, 0))
theorem OneVal.later {x : Val} {u : Value} {w w' : World} (h : OneVal x u w) (k : Later w w') : OneVal x u w' := let ⟨b, h1, h2⟩ := h; ⟨b, h1, k.obj h2⟩
theorem own_later {w w' : World} {B : Nat} {e : TypeId} {s n : Nat} {v : Value} {xs : List Value} (h : w.ownsRow B e s v n xs) (k : Later w w') : w'.ownsRow B e s v n xs :=
  h.kept (row := none) ⟨k.os, k.tape, k.output, k.size, fun i hi _ => k.block i hi⟩ (by cases hv : v.ownBlock <;> simp)
def CopyTo (w : World) (t : Int) (l : List Val) (e : Ending) (w' : World) : Prop := ∃ v', e = .returned (.agg #[.int .i64 t, v']) ∧ w'.ownsRow w.heap.size 25 3 v' l.length (valCells l) ∧ Later w w'

set_option maxRecDepth 100000 in
set_option maxHeartbeats 2000000 in
theorem copy_row (t : Int) (l : List Val) (v : Value) (w : World) (hv : IsVals w v l) (hl : l.length * 32 ≤ 140737488355328) :
    Calls Tryd.prog 34 #[.agg #[.int .i64 t, v]] w (CopyTo w t l) := by
  obtain ⟨i0, hi, hz0, hz1, hz2⟩ := info_parts infoVal
  have HI := hid hi; have HZ0 := hid hz0; have HZ1 := hid hz1; have HZ2 := hid hz2; clear hi hz0 hz1 hz2
  obtain ⟨p, c, rfl, hac, hcm, -, hea⟩ := hv
  have HE := hid hea
  clear hea hac hcm
  go_enter Tryd.func34, Tryd.ntmps34
  go_wp2
  go_loopw [4] (fun i wr => ∃ n : Nat, n ≤ l.length ∧ i = .int .i64 n ∧ Later w wr ∧ wr.heap[w.heap.size]? = some (.cells #[.int .i64 t, .slice p l.length c] 79 (0, 0)) ∧
      wr.heap[w.heap.size + 1]? = some (.cells #[.int .i64 0, .slice none 0 0] 79 (0, 0)) ∧
      ∃ sv, wr.heap[w.heap.size + 2]? = some (.cells #[.int .i64 t, sv] 79 (0, 0)) ∧ wr.ownsRow (w.heap.size + 3) 25 3 sv n (valCells (l.take n))) (fun i _ => l.length - (intOf i).toNat)
  case atStart =>
    refine ⟨0, by omega, rfl, ?_, ?_, ?_, .slice none 0 0, ?_, rfl, .inl ⟨rfl, rfl⟩⟩
    · exact ((Later.alloc w _).alloc' _).alloc' _
    · exact (Later.alloc _ _).obj ((Later.alloc _ _).obj (obj_new _ _))
    · have h := (Later.alloc ((w.alloc (.cells #[.int .i64 t, .slice p l.length c] 79)).alloc (.cells #[.int .i64 0, .slice none 0 0] 79)) (.cells #[.int .i64 t, .slice none 0 0] 79)).obj (obj_new _ _)
      simpa using h
    · simpa using obj_new ((w.alloc (.cells #[.int .i64 t, .slice p l.length c] 79)).alloc (.cells #[.int .i64 0, .slice none 0 0] 79)) (.cells #[.int .i64 t, .slice none 0 0] 79)
  case round =>
    obtain ⟨n, hn, rfl, hL, hr, hb, sv, ho, hown⟩ := hrel
    have HR := hid hr; have HB := hid hb; have HO := hid ho; have HOWN := hid hown
    have hr1 := cell_obj (i := 1) hr rfl
    clear hr hb hown
    by_cases hlt : n < l.length
    · obtain ⟨b1, oo, rfl, -, e1⟩ := HE.out n hlt
      obtain ⟨p1, p2, p3⟩ := e1.later hL
      clear e1
      have hnn : (0 : Int) ≤ n := by omega
      have HT : Hid (valCells (l.take n) ++ l[n].cells = valCells (l.take (n + 1))) := hid (valCells_take hlt)
      generalize l[n] = x at *
      obtain ⟨k, m, tx⟩ := x
      simp only at p1 p2 p3
      have o0 := cell_obj (i := 1) ho rfl
      clear ho
      go_wp2
      refine wp_region_plan (by kernel_rfl) (by kernel_rfl) [0] [8, 9, 10] (by kernel_rfl) (fun _ _ d _ _ h => by cases d <;> exact h) (Later) (Later.refl) (Later.trans) (kinds [(7, OneVal ⟨k, m, tx⟩)]) (kinds_still (by simp only [List.mem_cons, List.not_mem_nil, or_false, forall_eq]; exact fun _ _ _ hR h => h.later hR)) ?_
      simp only [body, tail, numbered, Nat.reduceAdd, List.filter_cons, List.filter_nil, List.contains_cons, List.contains_nil, Nat.reduceBEq, Bool.or_false, Bool.or_true, Bool.false_or, Bool.true_or, Bool.not_true, Bool.not_false, Bool.and_true, Bool.and_false, Bool.true_and, Bool.false_and, if_true, if_false, reduceIte, Bool.false_eq_true, List.map_cons, List.map_nil]
      refine Pures.cons rfl ?_
      apply Exists.intro
      refine ⟨fun w => ?_, ?_⟩
      · go_simp
        first | done | rfl
      simp only [Act.put, List.setIfInBounds_toArray, List.set]
      simp only [Pures]
      iterate 6
        first
        | (refine Lex.skip rfl ?_; simp only [Act.put, List.setIfInBounds_toArray, List.set])
        | (refine Lex.one' rfl rfl ?_
           apply Exists.intro
           refine ⟨fun w hR hF => ?_, ?_⟩
           · have hP := hR
             repeat (first | replace hP := Later.of_drew hP | replace hP := Later.of_drewN hP | replace hP := Later.of_alloc hP)
             have hcs := hR.cells
             have zhr1 := hP.cell hr1
             have zo0 := hP.cell o0
             have zp1 := hP.cell p1
             have zp2 := hP.cell p2
             have zp3 := hP.cell p3
             clear hR hF hP
             go_simp
             first | done | rfl
           simp only [Act.put, List.setIfInBounds_toArray, List.set])
      refine Lex.any rfl rfl (fun w2 hR hF => ?_) ?_
      · have hP := hR
        repeat (first | replace hP := Later.of_drew hP | replace hP := Later.of_drewN hP | replace hP := Later.of_alloc hP)
        have q1 := hP.cell p1
        have q2 := hP.cell p2
        have q3 := hP.cell p3
        clear hR hP hF p1 p2 p3 hr1 o0
        unfold Runs
        go_simp
        exact yield_value (Later.alloc _ _) ⟨w2.heap.size, rfl, obj_new _ _⟩
      rintro v7 ⟨w2, hR2, hF2⟩
      obtain ⟨b7, rfl, -⟩ := hF2 _ List.mem_cons_self _ rfl
      clear hF2 hR2 w2
      simp only [Act.put, List.setIfInBounds_toArray, List.set]
      intro w2 hR2 hF2
      obtain ⟨b8, e8, h8⟩ := hF2 _ List.mem_cons_self _ rfl
      simp only [Value.slice.injEq, Option.some.injEq, Addr.mk.injEq] at e8
      obtain ⟨⟨rfl, -, -⟩, -, -⟩ := e8
      clear hF2
      repeat (first | replace hR2 := Later.of_drew hR2 | replace hR2 := Later.of_drewN hR2 | replace hR2 := Later.of_alloc hR2)
      have c0 := cell_obj (i := 0) h8 rfl
      have c1 := cell_obj (i := 1) h8 rfl
      have c2 := cell_obj (i := 2) h8 rfl
      have ho2 := hR2.obj HO.out
      have hown2 := own_later HOWN.out hR2
      have hs2 := hR2.size
      have hz : w.heap.size + 3 ≤ wr.heap.size := (Array.getElem?_eq_some_iff.1 HO.out).1
      have HO2 := hid ho2
      have HR2 := hid hR2
      clear hR2 ho2 h8 p1 p2 p3 hr1 o0
      change wpList _ _ _ _ _ _
      refine wpList_append _ rfl _ _ 77 rfl (w.heap.size + 3) 25 i0 _ 3 32 Tryd.underlying77 HI.out HZ0.out HZ1.out HZ2.out rfl (by decide) sv _ _ rfl hown2 ⟨b7, 0, none⟩ 1 1 [.int .i64 k, .int .i64 m, .string tx] rfl rfl ?_ ?_ ?_ ?_ ?_ ?_
      · intro j u hu
        rw [add_none rfl]
        match j, hu with
        | 0, hu => simp at hu; subst hu; simpa using c0
        | 1, hu => simp at hu; subst hu; simpa using c1
        | 2, hu => simp at hu; subst hu; simpa using c2
      · intro u hu
        simp only [List.mem_cons, List.not_mem_nil, or_false] at hu
        rcases hu with rfl | rfl | rfl <;> rfl
      · unfold maxLen; omega
      · omega
      · omega
      intro v' w3 hA
      clear c0 c1 c2
      have hbk : ∀ j, j < w.heap.size + 3 → w3.heap[j]? = w2.heap[j]? := fun j hj => hA.grown.block _ (by omega) (fun h => by have := (hown2.lt j h.symm).1; omega)
      obtain ⟨a', c', rfl⟩ := ownsRow_slice hA.own
      have HA := hid hA
      have hb3 : Below w.heap.size w w2 := Below.trans hL (Below.mono HR2.out (by omega))
      have hl3 : Later w w3 := hb3.grown hA.grown (by omega) (fun j hj => by have := (hown2.lt j hj).1; omega)
      have ho3 := (hbk (w.heap.size + 2) (by omega)).trans HO2.out
      have HR3 : Hid (w3.heap[w.heap.size]? = some (.cells #[.int .i64 t, .slice (some ⟨b1, oo, none⟩) l.length c] 79 (0, 0))) := hid ((hbk _ (by omega)).trans (HR2.out.obj HR.out))
      have HB3 : Hid (w3.heap[w.heap.size + 1]? = some (.cells #[.int .i64 0, .slice none 0 0] 79 (0, 0))) := hid ((hbk _ (by omega)).trans (HR2.out.obj HB.out))
      have HL3 := hid hl3
      have HO3 := hid ho3
      have o1 := cell_obj (i := 1) ho3 rfl
      have z0 := free_obj (i := 1) ho3
      have hs3 : w2.heap.size ≤ w3.heap.size := hA.grown.size
      clear hA hb3 hl3 ho3 hbk hown2
      go_wp2
      go_roundw
      case rel =>
        have HA' := HA.out.own
        rw [show ([Value.int .i64 k, .int .i64 m, .string tx] : List Value) = Val.cells ⟨k, m, tx⟩ from rfl, HT.out] at HA'
        refine ⟨n + 1, by omega, by go_num, HL3.out.new (p := ⟨_, _, none⟩) (by simp only; omega) _, ?_, ?_, _, obj_setCell HO3.out _, ?_⟩
        · rw [Below.heap_setCell _ ⟨_, _, none⟩ _ _ (by simp only; omega)]; exact HR3.out
        · rw [Below.heap_setCell _ ⟨_, _, none⟩ _ _ (by simp only; omega)]; exact HB3.out
        · exact ownsRow_setCell_below HA' (by simp only; omega) _
      case measure => simp [intOf]; omega
    · obtain rfl : n = l.length := by omega
      have hown := HOWN.out
      rw [List.take_length] at hown
      have HOWN2 := hid hown
      obtain ⟨a', c', rfl⟩ := ownsRow_slice hown
      have o0 := cell_obj (i := 0) ho rfl
      have o1 := cell_obj (i := 1) ho rfl
      have hb := HB.out
      have b0 := cell_obj (i := 0) hb rfl
      have b1 := cell_obj (i := 1) hb rfl
      have z0 := free_obj (i := 0) hb
      have z1 := free_obj (i := 1) hb
      clear hown ho hb
      go_wp2
      have hb9 := obj_setCell (i := 1) (obj_setCell (i := 0) HB.out (.int .i64 t)) (.slice a' l.length c')
      have ho9 := ownsRow_setCell_below (ownsRow_setCell_below HOWN2.out (a := ⟨w.heap.size + 1, 0, none⟩) (by simp only; omega) (.int .i64 t)) (a := ⟨w.heap.size + 1, 1, none⟩) (by simp only; omega) (.slice a' l.length c')
      have hL9 : Later w ((wr.setCell ⟨w.heap.size + 1, 0, none⟩ (.int .i64 t)).setCell ⟨w.heap.size + 1, 1, none⟩ (.slice a' l.length c')) := (hL.new (p := ⟨_, _, none⟩) (by simp only; omega) _).new (p := ⟨_, _, none⟩) (by simp only; omega) _
      generalize (wr.setCell ⟨w.heap.size + 1, 0, none⟩ (.int .i64 t)).setCell ⟨w.heap.size + 1, 1, none⟩ (.slice a' l.length c') = w9 at *
      clear b0 b1 z0 z1 o0 o1
      have b0 := cell_obj (i := 0) hb9 rfl
      have b1 := cell_obj (i := 1) hb9 rfl
      simp at b0 b1
      exact bodyPost_ret (v := .agg #[.int .i64 t, .slice a' l.length c']) (by simp [results, Tryd.results34, go_sem, b0, b1]) rfl ⟨_, rfl, ownsRow_base ho9 (by omega), hL9⟩
end Go.Proofs.YtcmpjdnbjhkhdaaDoor
