/-
  PROVED HERE: values with their times in memory. No program of its own.
-/
import Derived.Test.YtcmpjdnbjhkhdaaDoorAppX
import Derived.Test.YtcmpjdnbjhkhdaaDoorAggFold
namespace Go.Proofs.YtcmpjdnbjhkhdaaDoor
set_option linter.unusedSimpArgs false
set_option linter.unusedVariables false
open Go Go.RowKit

def TV.cells (x : TV) : List Value := .int .i64 x.time :: x.val.cells
def timedCells (l : List TV) : List Value := l.flatMap TV.cells
theorem timedCells_length (l : List TV) : (timedCells l).length = l.length * 4 := by
  induction l with
  | nil => rfl
  | cons x l ih => simp only [timedCells, List.flatMap_cons, List.length_append, List.length_cons] at ih ⊢; simp only [TV.cells, Val.cells, List.length_cons, List.length_nil]; omega
theorem timedCells_get : ∀ (l : List TV) (i : Nat) (h : i < l.length), (timedCells l)[i * 4]? = some (.int .i64 l[i].time) ∧ (timedCells l)[i * 4 + 1]? = some (.int .i64 l[i].val.k) ∧ (timedCells l)[i * 4 + 2]? = some (.int .i64 l[i].val.n) ∧ (timedCells l)[i * 4 + 3]? = some (.string l[i].val.t)
  | [], i, h => by cases h
  | x :: l, 0, _ => by simp [timedCells, TV.cells, Val.cells]
  | x :: l, i + 1, h => by
    have ih := timedCells_get l i (by simpa using h)
    have e : ∀ j, (timedCells (x :: l))[(i + 1) * 4 + j]? = (timedCells l)[i * 4 + j]? := fun j => by
      show (TV.cells x ++ timedCells l)[(i + 1) * 4 + j]? = _
      rw [List.getElem?_append_right (by simp [TV.cells, Val.cells]; omega)]
      congr 1
      simp [TV.cells, Val.cells]; omega
    have e0 := e 0
    simp only [Nat.add_zero] at e0
    rw [e0, e 1, e 2, e 3]
    simpa using ih
theorem timedCells_app (l m : List TV) : timedCells (l ++ m) = timedCells l ++ timedCells m := by unfold timedCells; rw [List.flatMap_append]
theorem owned_timeds {w : World} {base : Nat} {e : TypeId} {v : Value} {n : Nat} {l : List TV} (h : w.ownsRow base e 4 v n (timedCells l)) : TimedsIn (fun b => base ≤ b) w v l := by
  obtain ⟨hn, hv⟩ := h
  rw [timedCells_length] at hn
  obtain rfl : l.length = n := by omega
  rcases hv with ⟨rfl, h0⟩ | ⟨g, cap, cur, rfl, hb, hg, hl, hm, hc, ht⟩
  · have : l = [] := List.eq_nil_of_length_eq_zero h0
    subst this
    exact ⟨none, 0, rfl, Nat.le_refl _, by unfold maxLen; omega, fun _ => rfl, fun i hi => by cases hi⟩
  · refine ⟨_, cap, rfl, hl, hm, fun h => (by cases h), fun i hi => ⟨g, 0, rfl, hb, ?_⟩⟩
    have cell : ∀ j u, (timedCells l)[j]? = some u → w.cell? ⟨g, j, none⟩ = some u := fun j u hu => by
      refine cell_obj hg ?_
      rw [← ht, List.getElem?_take] at hu
      split at hu
      · simpa using hu
      · cases hu
    obtain ⟨h1, h2, h3, h4⟩ := timedCells_get l i hi
    simp only [Nat.zero_add]
    exact ⟨cell _ _ h1, cell _ _ h2, cell _ _ h3, cell _ _ h4⟩
theorem owned_elems {w : World} {base : Nat} {e : TypeId} {ag : Option Addr} {cg : Nat} {s : List TV} (h : w.ownsRow base e 4 (.slice ag s.length cg) s.length (timedCells s)) : Elems All TimedAt 4 w ag s := by
  obtain ⟨a, c, hv, -, -, -, he⟩ := owned_timeds h
  simp only [Value.slice.injEq, true_and] at hv
  obtain ⟨rfl, rfl⟩ := hv
  exact fun i hi => let ⟨b, o, h1, _, h2⟩ := he i hi; ⟨b, o, h1, trivial, h2⟩
theorem timed_ones (x : TV) : ∀ u ∈ x.cells, u.oneCell' = true := by
  intro u hu
  rcases List.mem_cons.1 hu with rfl | hu
  · rfl
  · exact val_ones _ u hu
theorem AppX.low {w w' : World} {B s n m : Nat} {e : TypeId} {v v' : Value} {xs ys : List Value} (h : AppX w B e s v n m xs v' w') (ho : w.ownsRow B e s v n ys) : Keeps (fun b => b < B) w w' := by
  rcases h.kind with ⟨g, cap, rfl, rfl, k⟩ | ⟨k, -⟩
  · exact k.mono fun b _ hb e => by have := (ownb ho g rfl).1; omega
  · exact k.keeps _
theorem infoTimed : (Tryd.prog.info? 36).map (fun i => (i.zero, i.size, i.bytes)) = some (some (.agg #[.int .i64 0, .int .i64 0, .int .i64 0, .string ⟨#[]⟩]), 4, 40) := by kernel_rfl
theorem timedElem : ElemInfo Tryd.prog 36 4 40 := ElemInfo.of infoTimed rfl (by decide)

/-- counting the different ones one by one. -/
def freshV (l : List TV) (x : TV) : Bool := l.all fun y => !eqV y.val x.val
theorem eqV_iff (x y : Val) : eqV x y = true ↔ x = y := by
  rw [← compareV_total.eq x y, compareV_eq x y]
  have t := eqV_tri x y
  unfold signI
  cases hb : beforeV x y <;> cases he : eqV x y <;> simp [hb, he] at t ⊢
theorem freshV_snoc (l : List TV) (y x : TV) : freshV (l ++ [y]) x = (freshV l x && !eqV y.val x.val) := by unfold freshV; simp
theorem some_k {l : List TV} {i : Nat} (h : i < (some' l).length) : (some' l)[i].val.k ≠ 0 := some_ne (List.getElem_mem h)
theorem setOf_snoc_len (l : List TV) (hl : ∀ t ∈ l, t.val.k ≠ 0) (x : TV) (hx : x.val.k ≠ 0) : (setOf (l ++ [x])).length = (setOf l).length + if freshV l x then 1 else 0 := by
  rw [setOf_snoc, setP_length hx]
  congr 1
  cases hf : freshV l x with
  | true =>
    have : hasV (setOf l) x.val = false := by
      rw [← Bool.not_eq_true, hasV_mem, setOf_mem]
      rintro ⟨t, ht, _, e⟩
      unfold freshV at hf
      rw [List.all_eq_true] at hf
      have := hf t ht
      rw [(eqV_iff _ _).2 e.symm] at this
      cases this
    rw [this]; rfl
  | false =>
    have : hasV (setOf l) x.val = true := by
      rw [hasV_mem, setOf_mem]
      unfold freshV at hf
      rw [← Bool.not_eq_true, List.all_eq_true] at hf
      simp only [Classical.not_forall] at hf
      obtain ⟨t, ht, h⟩ := hf
      refine ⟨t, ht, hl t ht, ((eqV_iff _ _).1 ?_).symm⟩
      cases he : eqV t.val x.val with
      | true => rfl
      | false => rw [he] at h; exact absurd rfl h
    rw [this]; rfl
theorem ref_choose {kind : Int} (h : 3 ≤ kind ∧ kind ≤ 6) (l : List TV) : (chooseR (betterR kind) (some' l)).val = foldV kind l := by
  rw [← val_ch h]
  obtain rfl | rfl | rfl | rfl : kind = 3 ∨ kind = 4 ∨ kind = 5 ∨ kind = 6 := by omega
  · exact (choose_same min_alike l).symm
  · exact (choose_same max_alike l).symm
  · exact (choose_same (eq_alike first_same) l).symm
  · exact (choose_same (eq_alike last_same) l).symm
theorem foldV_set (l : List TV) : intV (setOf (some' l)).length = foldV 7 l := by rw [setOf_some]; rfl
theorem foldV_sum (l : List TV) : sumV ((some' l).foldl sumP (0, 0)) = foldV 2 l := by rw [← sumP_some]; rfl
theorem chooseR_snoc (better : TV → TV → Bool) (l : List TV) (h : l ≠ []) (x : TV) : chooseR better (l ++ [x]) = if better (chooseR better l) x then x else chooseR better l := by
  cases l with
  | nil => exact absurd rfl h
  | cons y l =>
    show (l ++ [x]).foldl _ y = _
    rw [List.foldl_append]
    rfl
theorem chooseR_one (better : TV → TV → Bool) (s : List TV) (h : 0 < s.length) : chooseR better (s.take 1) = s[0] := by
  cases s with
  | nil => cases h
  | cons y l => rfl
end Go.Proofs.YtcmpjdnbjhkhdaaDoor
