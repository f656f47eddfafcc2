/-
  PROVED HERE: transactions' names, their order; the contract of table.compare. Lists that rise in an order, in plain Lean.
-/
import Derived.Test.YtcmpjdnbjhkhdaaDoorOrdTotal
import Derived.Test.YtcmpjdnbjhkhdaaDoorValue
import Derived.Test.YtcmpjdnbjhkhdaaDoorBytes
import Derived.Test.YtcmpjdnbjhkhdaaDoorLexS
import Derived.Laws.Cover1
namespace Go.Proofs.YtcmpjdnbjhkhdaaDoor
set_option linter.unusedSimpArgs false
set_option linter.unusedVariables false
open Go.RowKit

/-! lists that rise -/
section
variable {K α : Type} (c : K → K → Int) (key : α → K)
/-- items whose keys rise. -/
def RiseC (l : List α) : Prop := l.Pairwise fun a b => c (key a) (key b) < 0
def placeC (l : List α) (x : K) : Nat := (l.takeWhile fun y => decide (c (key y) x < 0)).length
def hasC (l : List α) (x : K) : Bool := l.any fun y => decide (c (key y) x = 0)
end
section
variable {K α : Type} {c : K → K → Int} {key : α → K} (hc : TotalC c)
theorem tw_prefix {α : Type} (p : α → Bool) (l : List α) (i : Nat) (h : i < l.length) : i < (l.takeWhile p).length → p l[i] = true := by
  induction l generalizing i with
  | nil => cases h
  | cons x l ih =>
    intro hi
    rw [List.takeWhile_cons] at hi
    split at hi
    · rename_i hp
      cases i with
      | zero => exact hp
      | succ i => exact ih i (by simpa using h) (by simpa using hi)
    · cases hi
theorem tw_stop {α : Type} (p : α → Bool) (l : List α) (h : (l.takeWhile p).length < l.length) : p (l[(l.takeWhile p).length]) = false := by
  induction l with
  | nil => cases h
  | cons x l ih =>
    by_cases hp : p x = true
    · have e : (x :: l).takeWhile p = x :: l.takeWhile p := by rw [List.takeWhile_cons, if_pos hp]
      simp only [e, List.length_cons] at h ⊢
      exact ih (by omega)
    · have e : (x :: l).takeWhile p = [] := by rw [List.takeWhile_cons, if_neg hp]
      simp only [e, List.length_nil]
      simpa using hp
include hc
theorem hasC_mem {l : List α} {x : K} : hasC c key l x = true ↔ ∃ y ∈ l, key y = x := by
  unfold hasC
  rw [List.any_eq_true]
  constructor
  · rintro ⟨y, hy, h⟩
    exact ⟨y, hy, (hc.eq _ _).1 (of_decide_eq_true h)⟩
  · rintro ⟨y, hy, rfl⟩
    exact ⟨y, hy, decide_eq_true ((hc.eq _ _).2 rfl)⟩
omit hc in
theorem placeC_le (l : List α) (x : K) : placeC c key l x ≤ l.length := by
  unfold placeC
  exact (List.takeWhile_sublist _).length_le
theorem placeC_lt {l : List α} (hs : RiseC c key l) (x : K) {h : Nat} (hh : h < l.length) : c (key l[h]) x < 0 ↔ h < placeC c key l x := by
  constructor
  · intro hk
    rcases Nat.lt_or_ge h (placeC c key l x) with hp | hp
    · exact hp
    · exfalso
      have hlt : placeC c key l x < l.length := Nat.lt_of_le_of_lt hp hh
      have hst : decide (c (key (l[placeC c key l x]'hlt)) x < 0) = false := tw_stop _ l hlt
      have hst := of_decide_eq_false hst
      rcases Nat.eq_or_lt_of_le hp with e | hlt2
      · subst e; exact hst hk
      · exact hst (hc.trans _ _ _ (List.pairwise_iff_getElem.1 hs _ _ hlt hh hlt2) hk)
  · intro hp
    have := tw_prefix (fun y => decide (c (key y) x < 0)) l h hh hp
    exact of_decide_eq_true this
theorem placeC_has {l : List α} (hs : RiseC c key l) (x : K) : hasC c key l x = (if h : placeC c key l x < l.length then decide (c (key (l[placeC c key l x]'h)) x = 0) else false) := by
  by_cases h : placeC c key l x < l.length
  · rw [dif_pos h, Bool.eq_iff_iff, hasC_mem hc, decide_eq_true_eq]
    constructor
    · rintro ⟨y, hm, rfl⟩
      obtain ⟨j, hj, rfl⟩ := List.getElem_of_mem hm
      have h0 := (hc.eq (key l[j]) (key l[j])).2 rfl
      have hnj : ¬ j < placeC c key l (key l[j]) := fun e => by have := (placeC_lt hc hs (key l[j]) hj).2 e; omega
      by_cases e : j = placeC c key l (key l[j])
      · have e2 : l[placeC c key l (key l[j])]'h = l[j] := by congr 1; exact e.symm
        rw [e2]; exact h0
      · have hlt := List.pairwise_iff_getElem.1 hs _ _ h hj (by omega)
        exact absurd ((placeC_lt hc hs (key l[j]) h).1 hlt) (by omega)
    · intro hk
      exact ⟨_, List.getElem_mem _, (hc.eq _ _).1 hk⟩
  · rw [dif_neg h, ← Bool.not_eq_true, hasC_mem hc]
    rintro ⟨y, hm, rfl⟩
    obtain ⟨j, hj, rfl⟩ := List.getElem_of_mem hm
    have h0 := (hc.eq (key l[j]) (key l[j])).2 rfl
    have := (placeC_lt hc hs (key l[j]) hj).2 (by omega)
    omega
theorem insC_rise {l : List α} (hs : RiseC c key l) (x : α) (hno : hasC c key l (key x) = false) : RiseC c key (l.take (placeC c key l (key x)) ++ x :: l.drop (placeC c key l (key x))) := by
  have hne : ∀ y ∈ l, c (key y) (key x) ≠ 0 := fun y hy h => by
    rw [(hasC_mem hc).2 ⟨y, hy, (hc.eq _ _).1 h⟩] at hno
    cases hno
  refine List.pairwise_append.2 ⟨hs.sublist (List.take_sublist _ _), List.pairwise_cons.2 ⟨fun y hy => ?_, hs.sublist (List.drop_sublist _ _)⟩, fun a ha b hb => ?_⟩
  · obtain ⟨j, hj, rfl⟩ := List.getElem_of_mem hy
    rw [List.length_drop] at hj
    rw [List.getElem_drop]
    have hjl : placeC c key l (key x) + j < l.length := by omega
    have h1 := hne _ (List.getElem_mem hjl)
    have h2 : ¬ c (key l[placeC c key l (key x) + j]) (key x) < 0 := fun h => by have := (placeC_lt hc hs (key x) hjl).1 h; omega
    have := hc.neg (key l[placeC c key l (key x) + j]) (key x)
    omega
  · obtain ⟨i, hi, rfl⟩ := List.getElem_of_mem ha
    rw [List.length_take] at hi
    rw [List.getElem_take]
    have hil : i < l.length := by omega
    have h1 : c (key l[i]) (key x) < 0 := (placeC_lt hc hs (key x) hil).2 (by omega)
    rcases List.mem_cons.1 hb with rfl | hb
    · exact h1
    · obtain ⟨j, hj, rfl⟩ := List.getElem_of_mem hb
      rw [List.length_drop] at hj
      rw [List.getElem_drop]
      exact List.pairwise_iff_getElem.1 hs _ _ hil (by omega) (by omega)
end

/-! transactions -/
structure TxD where
  mark : Int
  sink : List UInt8
  task : Int
def TxD.cells (x : TxD) : List Value := [.int .i64 x.mark, .string (strB x.sink), .int .i64 x.task]
abbrev TxD.v (x : TxD) : Value := .agg #[.int .i64 x.mark, .string (strB x.sink), .int .i64 x.task]
def compareT (x y : TxD) : Int := orL [cmpI x.mark y.mark, Lib.compareBytes x.sink y.sink, cmpI x.task y.task]
theorem compareT_total : TotalC compareT := by
  refine ((lex2_total cmpI_total (lex2_total (lexL_total cmpB_total) cmpI_total)).comap (fun x : TxD => (x.mark, x.sink, x.task)) fun x y h => ?_).congr fun x y => ?_
  · simp only [Prod.mk.injEq] at h
    obtain ⟨k1, n1, t1⟩ := x
    obtain ⟨k2, n2, t2⟩ := y
    simp only at h
    obtain ⟨rfl, rfl, rfl⟩ := h
    rfl
  · unfold compareT
    rw [orL3, bytes_lex]
    rfl
theorem cmpW (a b : Int) (w : World) : Calls Tryd.prog 125 #[.int .i64 a, .int .i64 b] w fun e w' => e = .returned (.int .i64 (cmpI a b)) ∧ w = w' := by
  rcases Int.lt_trichotomy a b with h | h | h
  · have hv : Hid (cmpI a b = -1) := by unfold cmpI Hid; simp [h]
    go_enter Tryd.func125, Tryd.ntmps125
    go_wp2
    go_ret
    exact ⟨ret_int hv.out.symm, rfl⟩
  · subst h
    have hv : Hid (cmpI a a = 0) := by unfold cmpI Hid; simp
    go_enter Tryd.func125, Tryd.ntmps125
    go_wp2
    go_ret
    exact ⟨ret_int hv.out.symm, rfl⟩
  · have hv : Hid (cmpI a b = 1) := by unfold cmpI Hid; rw [if_neg (by omega), if_pos h]
    have h' : ¬ a < b := by omega
    go_enter Tryd.func125, Tryd.ntmps125
    go_wp2
    go_ret
    exact ⟨ret_int hv.out.symm, rfl⟩
theorem strB_list (l : List UInt8) : (strB l).toList = l := ByteArray.toList_eq _
theorem bytesLess_irrefl (l : List UInt8) : Op.bytesLess l l = false := by
  have h := bytes_tri l l
  simp only [beq_self_eq_true] at h
  cases hb : Op.bytesLess l l with
  | true => rw [hb] at h; cases h
  | false => rfl
theorem cmpStr (a b : List UInt8) (w : World) : Calls Tryd.prog 126 #[.string (strB a), .string (strB b)] w fun e w' => e = .returned (.int .i64 (Lib.compareBytes a b)) ∧ w = w' := by
  have hv : Hid (Lib.compareBytes a b = signI (Op.bytesLess a b) (a == b)) := hid (compareBytes_eq a b)
  have h1 : Op.bytesLess (strB a).toList (strB b).toList = Op.bytesLess a b := by rw [strB_list, strB_list]
  have h2 : ((strB a).toList == (strB b).toList) = (a == b) := by rw [strB_list, strB_list]
  generalize Op.bytesLess a b = p at hv h1
  generalize (a == b) = q at hv h2
  cases q with
  | true =>
    have h3 : Op.bytesLess (strB a).toList (strB b).toList = false := by
      have e : (strB a).toList = (strB b).toList := by simpa using h2
      rw [e, bytesLess_irrefl]
    clear h1
    go_enter Tryd.func126, Tryd.ntmps126
    go_wp2
    go_ret
    exact ⟨ret_int (by rw [hv.out]; rfl), rfl⟩
  | false =>
    cases p with
    | true =>
      go_enter Tryd.func126, Tryd.ntmps126
      go_wp2
      go_ret
      exact ⟨ret_int (by rw [hv.out]; rfl), rfl⟩
    | false =>
      go_enter Tryd.func126, Tryd.ntmps126
      go_wp2
      go_ret
      exact ⟨ret_int (by rw [hv.out]; rfl), rfl⟩
set_option maxRecDepth 100000 in
theorem compare_tx (x y : TxD) (w : World) :
    Calls Tryd.prog 98 #[x.v, y.v] w fun e w' => e = .returned (.int .i64 (compareT x y)) ∧ Later w w' := by
  obtain ⟨k1, n1, t1⟩ := x
  obtain ⟨k2, n2, t2⟩ := y
  unfold compareT
  go_enter Tryd.func98, Tryd.ntmps98
  go_wp2
  refine wp_region_lex (by kernel_rfl) (by kernel_rfl) Later Later.refl Later.trans (kinds [(4, fun v _ => v = .int .i64 (cmpI k1 k2)), (9, fun v _ => v = .int .i64 (Lib.compareBytes n1 n2)), (14, fun v _ => v = .int .i64 (cmpI t1 t2)), (15, fun v w => ∃ b, v = .slice (some ⟨b, 0, none⟩) 3 3 ∧ w.heap[b]? = some (.cells #[.int .i64 (cmpI k1 k2), .int .i64 (Lib.compareBytes n1 n2), .int .i64 (cmpI t1 t2)] 3 (0, 0))), (16, fun v _ => v = .int .i64 (orL [cmpI k1 k2, Lib.compareBytes n1 n2, cmpI t1 t2]))]) (kinds_still (by simp only [List.mem_cons, List.not_mem_nil, or_false, forall_eq_or_imp, forall_eq]; exact ⟨fun _ _ _ _ h => h, fun _ _ _ _ h => h, fun _ _ _ _ h => h, fun _ _ _ hR ⟨b, h, h'⟩ => ⟨b, h, hR.obj h'⟩, fun _ _ _ _ h => h⟩)) ?_
  simp only [numbered, Nat.reduceAdd]
  iterate 4
    first
    | (refine Lex.skip rfl ?_; simp only [Act.put, List.setIfInBounds_toArray, List.set])
    | (refine Lex.one' rfl rfl ?_
       apply Exists.intro
       refine ⟨fun w hR hF => ?_, ?_⟩
       · have hP := hR
         repeat (first | replace hP := Later.of_drew hP | replace hP := Later.of_drewN hP | replace hP := Later.of_alloc hP)
         have hcs := hR.cells
         clear hR hF hP
         go_simp
         first | done | rfl
       simp only [Act.put, List.setIfInBounds_toArray, List.set])
  refine Lex.anyEq rfl rfl (fun w hR hF => ?_) ?_
  · have hP := hR
    repeat (first | replace hP := Later.of_drew hP | replace hP := Later.of_drewN hP | replace hP := Later.of_alloc hP)
    have hcs := hR.cells
    clear hF hR
    unfold Runs
    go_simp
    unfold Yield
    refine (cmpW k1 k2 _).mono ?_
    rintro e w' ⟨rfl, rfl⟩
    exact ⟨_, rfl, Later.refl _, rfl⟩
  simp only [Act.put, List.setIfInBounds_toArray, List.set]
  iterate 4
    first
    | (refine Lex.skip rfl ?_; simp only [Act.put, List.setIfInBounds_toArray, List.set])
    | (refine Lex.one' rfl rfl ?_
       apply Exists.intro
       refine ⟨fun w hR hF => ?_, ?_⟩
       · have hP := hR
         repeat (first | replace hP := Later.of_drew hP | replace hP := Later.of_drewN hP | replace hP := Later.of_alloc hP)
         have hcs := hR.cells
         clear hR hF hP
         go_simp
         first | done | rfl
       simp only [Act.put, List.setIfInBounds_toArray, List.set])
  refine Lex.anyEq rfl rfl (fun w hR hF => ?_) ?_
  · have hP := hR
    repeat (first | replace hP := Later.of_drew hP | replace hP := Later.of_drewN hP | replace hP := Later.of_alloc hP)
    have hcs := hR.cells
    clear hF hR
    unfold Runs
    go_simp
    unfold Yield
    refine (cmpStr n1 n2 _).mono ?_
    rintro e w' ⟨rfl, rfl⟩
    exact ⟨_, rfl, Later.refl _, rfl⟩
  simp only [Act.put, List.setIfInBounds_toArray, List.set]
  iterate 4
    first
    | (refine Lex.skip rfl ?_; simp only [Act.put, List.setIfInBounds_toArray, List.set])
    | (refine Lex.one' rfl rfl ?_
       apply Exists.intro
       refine ⟨fun w hR hF => ?_, ?_⟩
       · have hP := hR
         repeat (first | replace hP := Later.of_drew hP | replace hP := Later.of_drewN hP | replace hP := Later.of_alloc hP)
         have hcs := hR.cells
         clear hR hF hP
         go_simp
         first | done | rfl
       simp only [Act.put, List.setIfInBounds_toArray, List.set])
  refine Lex.anyEq rfl rfl (fun w hR hF => ?_) ?_
  · have hP := hR
    repeat (first | replace hP := Later.of_drew hP | replace hP := Later.of_drewN hP | replace hP := Later.of_alloc hP)
    have hcs := hR.cells
    clear hF hR
    unfold Runs
    go_simp
    unfold Yield
    refine (cmpW t1 t2 _).mono ?_
    rintro e w' ⟨rfl, rfl⟩
    exact ⟨_, rfl, Later.refl _, rfl⟩
  simp only [Act.put, List.setIfInBounds_toArray, List.set]
  refine Lex.any rfl rfl (fun w hR hF => ?_) ?_
  · clear hF hR
    unfold Runs
    go_simp
    exact yield_value (Later.alloc _ _) ⟨_, rfl, obj_new _ _⟩
  rintro v15 ⟨w2, hR2, hF2⟩
  obtain ⟨b, rfl, -⟩ := hF2 _ List.mem_cons_self _ rfl
  clear hF2 hR2 w2
  simp only [Act.put, List.setIfInBounds_toArray, List.set]
  refine Lex.anyEq rfl rfl (fun w hR hF => ?_) ?_
  · obtain ⟨b', hb, h15⟩ := hF _ List.mem_cons_self (by kernel_rfl) _ rfl
    simp only [Value.slice.injEq, Option.some.injEq, Addr.mk.injEq] at hb
    obtain ⟨⟨rfl, -, -⟩, -, -⟩ := hb
    clear hF hR
    unfold Runs
    go_simp
    refine yield_enter ?_
    refine (or_any b [cmpI k1 k2, Lib.compareBytes n1 n2, cmpI t1 t2] 3 w (by simp) ?_).mono ?_
    · intro i hi
      exact cell_obj h15 (by simp only [List.getElem?_toArray, List.length_cons, List.length_nil] at hi ⊢; match i, hi with | 0, _ => rfl | 1, _ => rfl | 2, _ => rfl)
    · rintro e w' ⟨rfl, rfl⟩
      exact ⟨_, rfl, Later.refl _, rfl⟩
  simp only [Act.put, List.setIfInBounds_toArray, List.set]
  iterate 1
    first
    | (refine Lex.skip rfl ?_; simp only [Act.put, List.setIfInBounds_toArray, List.set])
    | (refine Lex.one' rfl rfl ?_
       apply Exists.intro
       refine ⟨fun w hR hF => ?_, ?_⟩
       · have hP := hR
         repeat (first | replace hP := Later.of_drew hP | replace hP := Later.of_drewN hP | replace hP := Later.of_alloc hP)
         have hcs := hR.cells
         clear hR hF hP
         go_simp
         first | done | rfl
       simp only [Act.put, List.setIfInBounds_toArray, List.set])
  intro w1 hR1 hF9
  clear hF9
  go_wp2
  go_ret
  repeat (first | replace hR1 := Later.of_drew hR1 | replace hR1 := Later.of_drewN hR1 | replace hR1 := Later.of_alloc hR1)
  exact ⟨rfl, hR1⟩
end Go.Proofs.YtcmpjdnbjhkhdaaDoor
