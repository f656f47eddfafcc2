/-
  PROVED HERE: the contract of slices.Repeat at one lane; of gate.New.
-/
import Derived.Test.YthfgjmdmcoogpaaDoorSource
import Derived.Test.YthfgjmdmcoogpaaDoorShelf
namespace Go.Proofs.YthfgjmdmcoogpaaDoor
open Go.RowKit

theorem infoLane : (Tryd.prog.info? 130).map (fun i => (i.zero, i.size, i.bytes)) = some (some (.agg #[.int .i64 0, .bool false]), 2, 16) := by kernel_rfl
def laneCells : List (Int × Bool) → List Value
  | [] => []
  | l :: ls => .int .i64 l.1 :: .bool l.2 :: laneCells ls
theorem laneCells_length : ∀ ls, (laneCells ls).length = ls.length * 2
  | [] => rfl
  | l :: ls => by simp only [laneCells, List.length_cons, laneCells_length ls]; omega
theorem laneCells_append : ∀ a b, laneCells (a ++ b) = laneCells a ++ laneCells b
  | [], b => rfl
  | l :: a, b => by simp only [List.cons_append, laneCells, laneCells_append a b]
theorem laneCells_one : ∀ ls, ∀ u ∈ laneCells ls, u.oneCell' = true
  | [], u, h => by cases h
  | l :: ls, u, h => by
    simp only [laneCells, List.mem_cons] at h
    rcases h with rfl | rfl | h
    · rfl
    · rfl
    · exact laneCells_one ls u h
theorem laneCells_get : ∀ (ls : List (Int × Bool)) (i : Nat) (h : i < ls.length), (laneCells ls)[i * 2]? = some (.int .i64 ls[i].1) ∧ (laneCells ls)[i * 2 + 1]? = some (.bool ls[i].2)
  | [], i, h => by cases h
  | l :: ls, 0, _ => by simp [laneCells]
  | l :: ls, i + 1, h => by
    have ih := laneCells_get ls i (by simpa using h)
    rw [show (i + 1) * 2 = (i * 2) + 1 + 1 by omega, show (i * 2 + 1 + 1 + 1) = (i * 2 + 1) + 1 + 1 by omega]
    simpa [laneCells] using ih

theorem lane_rep (n m : Nat) (l : Int × Bool) : laneCells (List.replicate (n + m) l) = laneCells (List.replicate n l) ++ laneCells (List.replicate m l) := by
  rw [← List.replicate_append_replicate, laneCells_append]

def RepTo (w : World) (l : Int × Bool) (c : Nat) (e : Ending) (w' : World) : Prop :=
  ∃ L, e = .returned (.slice (some ⟨L, 0, none⟩) c c) ∧ w.heap.size ≤ L ∧ w'.heap[L]? = some (.cells (laneCells (List.replicate c l)).toArray 130 (0, 0)) ∧ Later w w'

set_option maxRecDepth 100000 in
set_option maxHeartbeats 2000000 in
theorem repeat_lane (x : Nat) (l : Int × Bool) (c : Nat) (w : World) (hx : w.heap[x]? = some (.cells #[.int .i64 l.1, .bool l.2] 130 (0, 0))) (h1 : 1 ≤ c) (h2 : c ≤ 64) :
    Calls Tryd.prog 69 #[.slice (some ⟨x, 0, none⟩) 1 1, .int .i64 c] w (RepTo w l c) := by
  obtain ⟨i0, hi, hz0, hz1, hz2⟩ := info_parts infoLane
  have HI := hid hi; have HZ0 := hid hz0; have HZ1 := hid hz1; have HZ2 := hid hz2; clear hi hz0 hz1 hz2
  have HX := hid hx; clear hx
  have hm : 1 * c / 18446744073709551616 = 0 := by omega
  have hm' : 1 * c % 18446744073709551616 = c := by omega
  have HM := hid hm; have HM' := hid hm'; clear hm hm'
  go_enter Tryd.func69, Tryd.ntmps69
  go_wp2_with fail
  refine (Tryd.bits_Mul 1 c (by omega) (by omega) _).mono ?_
  rintro e w1 ⟨rfl, hw⟩
  replace hw := hw.symm
  subst hw
  rw [HM.out, HM'.out]
  have hkl : IntKind.i64.wrap (c : Int) = c := IntWalk.i64_in (c : Int) (by omega)
  go_wp2_with (at_make; go_loud (refine wpList_make_full _ rfl _ _ 127 rfl w.heap.size 130 i0 _ 2 Tryd.underlying127 HI.out HZ0.out HZ1.out .i64 .i64 c c c ?b1 ?b2 rfl rfl ?b3 ?b4 (Nat.le_refl _) ?_))
  case b1 => first | rfl | exact congrArg _ hkl
  case b2 => first | rfl | exact congrArg _ hkl
  case b3 => rw [HZ2.out]; omega
  case b4 => unfold maxLen; omega
  intro w1 hown hgrow
  obtain ⟨g, cap, cur, hv, -, hg, -, -, hcs, htk⟩ : ∃ g cap cur, Value.slice (some ⟨w.heap.size, 0, none⟩) c c = .slice (some ⟨g, 0, none⟩) c cap ∧ _ := by
    rcases hown.2 with ⟨h, _⟩ | ⟨g, cap, cur, h⟩
    · cases h
    · exact ⟨g, cap, cur, h⟩
  simp only [Value.slice.injEq, Option.some.injEq, Addr.mk.injEq, and_true, true_and] at hv
  obtain ⟨rfl, rfl⟩ := hv
  have hcs' : cur.size = c * 2 := hcs
  have HG := hid hg; have HCS := hid hcs'
  have hL1 : Later w w1 := Keeps.later ((Keeps.of_grown hgrow).mono fun _ _ _ => by simp)
  have HX1 := hid (hL1.obj HX.out)
  have HL1 := hid hL1
  clear hown hgrow hg hcs hcs' htk hL1
  go_wp2_with (refine wpList_copy_rows _ rfl _ _ 127 127 rfl 130 i0 2 Tryd.underlying127 HI.out HZ1.out w.heap.size 0 c c ⟨x, 0, none⟩ 1 1 rfl rfl cur _ HG.out 1 ?b1 (laneCells [l]) rfl ?b2 ?b3 (laneCells_one [l]) ?_)
  case b1 => show 1 = min 1 c; omega
  case b2 =>
    intro j u hu
    rw [add_none rfl, Nat.zero_add]
    exact cell_obj HX1.out (by simpa [laneCells] using hu)
  case b3 => have := HCS.out; simp [laneCells]; omega
  intro w2 h2 hk2
  have hw2 : Later w w2 := Keeps.later (((HL1.out.keeps (fun b => b ≠ w.heap.size)).trans hk2).mono fun k hk _ => by omega)
  have hcur := HCS.out
  have hX0 : ∃ X : List Value, X.length = c * 2 ∧ X.take (1 * 2) = laneCells (List.replicate 1 l) ∧ w2.heap[w.heap.size]? = some (.cells X.toArray 130 (0, 0)) :=
    ⟨_, by simp [laneCells]; omega, by simp [laneCells], h2⟩
  clear hcur h2 hk2 HX HX1 HL1 HG HCS w1
  go_wp2_with fail
  go_loopw [8] (fun i wr => ∃ n : Nat, 1 ≤ n ∧ n ≤ c ∧ i = .int .i64 n ∧ Later w wr ∧ ∃ X : List Value, X.length = c * 2 ∧ X.take (n * 2) = laneCells (List.replicate n l) ∧ wr.heap[w.heap.size]? = some (.cells X.toArray 130 (0, 0))) (fun i _ => c - (intOf i).toNat)
  case atStart => exact ⟨1, by omega, h1, rfl, hw2, hX0⟩
  case round =>
    obtain ⟨n, hn1, hnc, rfl, hL, X, hXl, hXt, hXh⟩ := hrel
    have HXl := hid hXl; have HXt := hid hXt; have HXh := hid hXh; clear hXl hXt hXh hX0
    by_cases hlt : n < c
    · have q0 : (0 : Int) ≤ n := by omega
      have q1 : (n : Int) ≤ c := by omega
      go_wp2_with fail
      refine wp_region_plan (by kernel_rfl) (by kernel_rfl) [0] [7, 8, 9] (by kernel_rfl) (fun _ _ d _ _ h => by cases d <;> exact h) (Later) (Later.refl) (Later.trans) (fun _ => none) (fun _ _ _ _ _ h => by cases h) ?_
      simp only [body, tail, numbered, Nat.reduceAdd, List.filter_cons, List.filter_nil, List.contains_cons, List.contains_nil, Nat.reduceBEq, Bool.or_false, Bool.or_true, Bool.false_or, Bool.true_or, Bool.not_true, Bool.not_false, Bool.and_true, Bool.and_false, Bool.true_and, Bool.false_and, if_true, if_false, reduceIte, Bool.false_eq_true, List.map_cons, List.map_nil]
      refine Pures.cons rfl ?_
      apply Exists.intro
      refine ⟨fun w => ?_, ?_⟩
      · go_simp
        first | done | rfl
      simp only [Act.put, List.setIfInBounds_toArray, List.set]
      simp only [Pures]
      have hne : ¬ c = n := by omega
      iterate 6
        first
        | (refine Lex.skip rfl ?_; simp only [Act.put, List.setIfInBounds_toArray, List.set])
        | (refine Lex.one' rfl rfl ?_
           apply Exists.intro
           refine ⟨fun w hR hF => ?_, ?_⟩
           · have hP := hR
             repeat (first | replace hP := Later.of_drew hP | replace hP := Later.of_drewN hP | replace hP := Later.of_alloc hP)
             have hcs := hR.cells
             clear hR hF hP
             go_simp
             first | done | rfl
           simp only [Act.put, List.setIfInBounds_toArray, List.set])
      intro w3 hR3 hF3
      clear hF3
      repeat (first | replace hR3 := Later.of_drew hR3 | replace hR3 := Later.of_drewN hR3 | replace hR3 := Later.of_alloc hR3)
      have hX3 := hR3.obj HXh.out
      have HX3 := hid hX3
      have hm : ∃ m, m = min n (c - n) := ⟨_, rfl⟩
      obtain ⟨m, hm⟩ := hm
      have hm1 : n + m ≤ c := by omega
      have hm2 : m ≤ n := by omega
      have hm3 : 1 ≤ m := by omega
      have HR3 := hid hR3
      have hxl := HXl.out
      have hsz : w.heap.size < wr.heap.size := (Array.getElem?_eq_some_iff.1 HXh.out).1
      clear hR3 hX3
      change wpList _ _ _ _ _ _
      refine wpList_copy_rows _ rfl _ _ 127 127 rfl 130 i0 2 Tryd.underlying127 HI.out HZ1.out w.heap.size (n * 2) (c - n) (c - n) ⟨w.heap.size, 0, none⟩ n c rfl rfl X.toArray _ HX3.out m hm (laneCells (List.replicate m l)) ?_ ?_ ?_ (laneCells_one _) ?_
      · rw [laneCells_length, List.length_replicate]
      · intro j u hu
        rw [add_none rfl, Nat.zero_add]
        refine cell_obj HX3.out ?_
        have hj : j < m * 2 := by
          have := (List.getElem?_eq_some_iff.1 hu).1
          rwa [laneCells_length, List.length_replicate] at this
        have h5 : (X.take (n * 2))[j]? = some u := by
          rw [HXt.out, show n = m + (n - m) by omega, lane_rep, List.getElem?_append_left (by rw [laneCells_length, List.length_replicate]; exact hj)]
          exact hu
        rw [List.getElem?_take_of_lt (by omega)] at h5
        simpa using h5
      · rw [laneCells_length, List.length_replicate]; simp; omega
      intro w4 h4 hk4
      have hw4 : Later w w4 := Keeps.later (((Later.trans _ _ _ hL HR3.out).keeps (fun b => b ≠ w.heap.size) |>.trans hk4).mono fun k hk _ => by omega)
      have HW4 := hid hw4
      have hX4 : ∃ X' : List Value, X'.length = c * 2 ∧ X'.take ((n + m) * 2) = laneCells (List.replicate (n + m) l) ∧ w4.heap[w.heap.size]? = some (.cells X'.toArray 130 (0, 0)) := by
        refine ⟨_, ?_, ?_, h4⟩
        · simp [laneCells_length]; omega
        · have e1 : (X.toArray.toList.take (n * 2)).length = n * 2 := by simp; omega
          have e2 : (laneCells (List.replicate m l)).length = m * 2 := by rw [laneCells_length, List.length_replicate]
          rw [List.take_left' (by rw [List.length_append, e1, e2]; omega), lane_rep]
          rw [show X.toArray.toList = X from rfl, HXt.out]
      have HX4 := hid hX4
      clear h4 hk4 hw4 hX4
      have hwm : IntKind.i64.wrap ((n : Int) + m) = n + m := IntWalk.i64_in _ (by omega)
      go_wp2
      go_roundw
      case rel => exact ⟨n + m, by omega, hm1, by simp [hwm]; omega, HW4.out, HX4.out⟩
      case measure => simp [intOf]; omega
    · obtain rfl : n = c := by omega
      go_wp2
      go_ret
      refine ⟨_, rfl, Nat.le_refl _, ?_, hL⟩
      have h1 := HXt.out
      rw [← HXl.out, List.take_length] at h1
      rw [← h1]
      exact HXh.out
end Go.Proofs.YthfgjmdmcoogpaaDoor
