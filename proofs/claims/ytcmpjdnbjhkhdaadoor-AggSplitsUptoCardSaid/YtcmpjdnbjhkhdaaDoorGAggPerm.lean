/-
  PROVED HERE: in plain Lean: in whatever order values come, they come to the same; one more never makes the least greater. No program of its own.
  PROVED HERE: what two lists come to, joined, is what the one list of both comes to, in plain Lean. No program of its own.
-/
import Derived.Test.YtcmpjdnbjhkhdaaDoorAggPlain
import Derived.Test.YtcmpjdnbjhkhdaaDoorPutPlain
namespace Go.Proofs.YtcmpjdnbjhkhdaaDoor
set_option linter.unusedSimpArgs false
set_option linter.unusedVariables false
open Go Go.RowKit

theorem byValue_total : TotalC byValue := by
  refine ((lex2_total compareV_total cmpI_total).comap (fun t : TV => (t.val, t.time)) fun x y h => ?_).congr fun x y => ?_
  · obtain ⟨a, b⟩ := x; obtain ⟨c, d⟩ := y
    simp only [Prod.mk.injEq] at h
    obtain ⟨rfl, rfl⟩ := h
    rfl
  · unfold byValue
    rw [orL2]
    rfl
theorem byTime_total : TotalC byTime := by
  refine ((lex2_total cmpI_total compareV_total).comap (fun t : TV => (t.time, t.val)) fun x y h => ?_).congr fun x y => ?_
  · obtain ⟨a, b⟩ := x; obtain ⟨c, d⟩ := y
    simp only [Prod.mk.injEq] at h
    obtain ⟨rfl, rfl⟩ := h
    rfl
  · unfold byTime
    rw [orL2]
    rfl
/-- an order that is strict and whole. -/
structure Strict (b : TV → TV → Bool) : Prop where
  asym : ∀ x y, b x y = true → b y x = false
  tot : ∀ x y, b x y = false → b y x = false → x = y
  trans : ∀ x y z, b x y = true → b y z = true → b x z = true
theorem strict_of {c : TV → TV → Int} (hc : TotalC c) {sg : Int} (hs : sg = 1 ∨ sg = -1) : Strict fun a b => decide (c a b * sg < 0) := by
  refine ⟨fun x y h => ?_, fun x y h k => ?_, fun x y z h k => ?_⟩
  · have := hc.neg x y
    have h := of_decide_eq_true h
    refine decide_eq_false ?_
    rcases hs with rfl | rfl <;> omega
  · have := hc.neg x y
    have h := of_decide_eq_false h
    have k := of_decide_eq_false k
    refine (hc.eq x y).1 ?_
    rcases hs with rfl | rfl <;> omega
  · have h := of_decide_eq_true h
    have k := of_decide_eq_true k
    refine decide_eq_true ?_
    rcases hs with rfl | rfl
    · have := hc.trans x y z (by omega) (by omega)
      omega
    · have h1 := hc.neg x y; have h2 := hc.neg y z; have h3 := hc.neg x z
      have := hc.trans z y x (by omega) (by omega)
      omega
theorem before_strict (kind : Int) : Strict (beforeP kind) := by
  have e : beforeP kind = if kind = 3 then (fun a b => decide (byValue a b * 1 < 0)) else if kind = 4 then (fun a b => decide (byValue a b * -1 < 0)) else if kind = 5 then (fun a b => decide (byTime a b * 1 < 0)) else (fun a b => decide (byTime a b * -1 < 0)) := by
    funext a b
    unfold beforeP
    split
    · rfl
    · split
      · rfl
      · split <;> rfl
  rw [e]
  split
  · exact strict_of byValue_total (.inl rfl)
  · split
    · exact strict_of byValue_total (.inr rfl)
    · split
      · exact strict_of byTime_total (.inl rfl)
      · exact strict_of byTime_total (.inr rfl)
theorem choose_null {b : TV → TV → Bool} (z x : TV) (h : x.val.k = 0) : chooseP b z x = z := by unfold chooseP; rw [if_neg (by rintro ⟨h', _⟩; exact h' h)]
theorem choose_first {b : TV → TV → Bool} (z x : TV) (h : x.val.k ≠ 0) (hz : z.val.k = 0) : chooseP b z x = x := by unfold chooseP; rw [if_pos ⟨h, .inl hz⟩]
theorem choose_next {b : TV → TV → Bool} (z x : TV) (h : x.val.k ≠ 0) (hz : z.val.k ≠ 0) : chooseP b z x = if b x z = true then x else z := by
  unfold chooseP
  by_cases hb : b x z = true
  · rw [if_pos ⟨h, .inr hb⟩, if_pos hb]
  · rw [if_neg (by rintro ⟨_, h' | h'⟩; exact hz h'; exact hb h'), if_neg hb]
theorem choose_comm {b : TV → TV → Bool} (hb : Strict b) (z x y : TV) : chooseP b (chooseP b z x) y = chooseP b (chooseP b z y) x := by
  by_cases hx : x.val.k = 0
  · rw [choose_null z x hx, choose_null _ x hx]
  by_cases hy : y.val.k = 0
  · rw [choose_null z y hy, choose_null _ y hy]
  by_cases hz : z.val.k = 0
  · rw [choose_first z x hx hz, choose_first z y hy hz, choose_next x y hy hx, choose_next y x hx hy]
    cases h1 : b y x with
    | true => rw [hb.asym _ _ h1]; simp
    | false =>
      cases h2 : b x y with
      | true => simp
      | false => rw [hb.tot _ _ h1 h2]
  · rw [choose_next z x hx hz, choose_next z y hy hz]
    cases h1 : b x z <;> cases h2 : b y z <;> simp only [if_true, if_false, Bool.false_eq_true]
    · rw [choose_next z y hy hz, choose_next z x hx hz, h1, h2]; simp
    · rw [choose_next z y hy hz, choose_next y x hx hy, h2]
      cases h3 : b x y with
      | true => rw [hb.trans _ _ _ h3 h2] at h1; cases h1
      | false => rfl
    · rw [choose_next x y hy hx, choose_next z x hx hz, h1]
      cases h3 : b y x with
      | true => rw [hb.trans _ _ _ h3 h1] at h2; cases h2
      | false => rfl
    · rw [choose_next x y hy hx, choose_next y x hx hy]
      cases h3 : b y x with
      | true => rw [hb.asym _ _ h3]; simp
      | false =>
        cases h4 : b x y with
        | true => simp
        | false => rw [hb.tot _ _ h3 h4]
theorem foldl_perm {α β : Type} {f : β → α → β} (hf : ∀ z x y, f (f z x) y = f (f z y) x) {l m : List α} (p : l.Perm m) : ∀ z, l.foldl f z = m.foldl f z := by
  induction p with
  | nil => intro z; rfl
  | cons x _ ih => intro z; exact ih _
  | swap x y l => intro z; simp only [List.foldl_cons]; rw [hf]
  | trans _ _ ih1 ih2 => intro z; rw [ih1, ih2]
theorem sum_comm (z : Int × Int) (x y : TV) : sumP (sumP z x) y = sumP (sumP z y) x := by
  unfold sumP
  by_cases hx : x.val.k = 1 <;> by_cases hy : y.val.k = 1 <;> simp only [hx, hy, if_true, if_false]
  simp only [Prod.mk.injEq]
  refine ⟨trivial, ?_⟩
  unfold wrap64
  omega
theorem sorted_eq : ∀ {a b : List Val}, SortedV a → SortedV b → (∀ x, x ∈ a ↔ x ∈ b) → a = b
  | [], [], _, _, _ => rfl
  | [], y :: b, _, _, h => absurd ((h y).2 List.mem_cons_self) (by simp)
  | x :: a, [], _, _, h => absurd ((h x).1 List.mem_cons_self) (by simp)
  | x :: a, y :: b, ha, hb, h => by
    have ha' := List.pairwise_cons.1 ha
    have hb' := List.pairwise_cons.1 hb
    have hxx : ∀ x, ¬ compareV x x < 0 := fun x => by have := (compareV_total.eq x x).2 rfl; omega
    have hxy : x = y := by
      rcases List.mem_cons.1 ((h x).1 List.mem_cons_self) with e | e
      · exact e
      · rcases List.mem_cons.1 ((h y).2 List.mem_cons_self) with e' | e'
        · exact e'.symm
        · exact absurd (compareV_total.trans _ _ _ (hb'.1 x e) (ha'.1 y e')) (hxx y)
    subst hxy
    rw [sorted_eq ha'.2 hb'.2 fun z => ?_]
    constructor
    · intro hz
      rcases List.mem_cons.1 ((h z).1 (List.mem_cons_of_mem _ hz)) with e | e
      · subst e; exact absurd (ha'.1 z hz) (hxx z)
      · exact e
    · intro hz
      rcases List.mem_cons.1 ((h z).2 (List.mem_cons_of_mem _ hz)) with e | e
      · subst e; exact absurd (hb'.1 z hz) (hxx z)
      · exact e
theorem setOf_perm {l m : List TV} (p : l.Perm m) : setOf l = setOf m := by
  refine sorted_eq (setOf_sorted l) (setOf_sorted m) fun x => ?_
  rw [setOf_mem, setOf_mem]
  constructor
  · rintro ⟨t, ht, h⟩; exact ⟨t, p.mem_iff.1 ht, h⟩
  · rintro ⟨t, ht, h⟩; exact ⟨t, p.mem_iff.2 ht, h⟩
theorem foldV_perm (kind : Int) {l m : List TV} (p : l.Perm m) : foldV kind l = foldV kind m := by
  unfold foldV
  rw [p.length_eq, foldl_perm sum_comm p, setOf_perm p, foldl_perm (choose_comm (before_strict kind)) p]
/-- one more never makes the least greater. -/
theorem least_more (l m : List TV) (p : l.Perm m) (x : TV) (h0 : (foldV 3 l).k ≠ 0) : beforeV (foldV 3 l) (foldV 3 (m ++ [x])) = false := by
  have e : ∀ l, foldV 3 l = (l.foldl (chooseP (beforeP 3)) nilTV).val := fun l => by
    unfold foldV
    rw [if_neg (by omega), if_neg (by omega), if_neg (by omega)]
  rw [e] at h0
  rw [e, e, List.foldl_append, ← foldl_perm (choose_comm (before_strict 3)) p]
  generalize l.foldl (chooseP (beforeP 3)) nilTV = y at *
  show beforeV y.val (chooseP (beforeP 3) y x).val = false
  have hself : ∀ v, beforeV v v = false := fun v => by
    rw [beforeV_cmp, (compareV_total.eq v v).2 rfl]
    rfl
  by_cases hx : x.val.k = 0
  · rw [choose_null _ _ hx]; exact hself _
  · rw [choose_next _ _ hx h0]
    cases hb : beforeP 3 x y with
    | false => exact hself _
    | true =>
      rw [if_pos rfl, beforeV_cmp]
      unfold beforeP at hb
      rw [if_pos rfl] at hb
      have hb := of_decide_eq_true hb
      unfold byValue at hb
      rw [orL2] at hb
      have hn := compareV_total.neg x.val y.val
      refine decide_eq_false ?_
      split at hb <;> omega
/-- the law's own turning. -/
def turnL (l : List TV) (by_ : Int) : List TV := if 0 < by_ then l.drop (by_.toNat % l.length) ++ l.take (by_.toNat % l.length) else l
theorem turnL_length (l : List TV) (by_ : Int) : (turnL l by_).length = l.length := by
  unfold turnL
  split
  · rcases Nat.eq_zero_or_pos l.length with h | h
    · have := List.eq_nil_of_length_eq_zero h; subst this; simp
    · have := Nat.mod_lt by_.toNat h
      simp; omega
  · rfl
theorem turnL_perm (l : List TV) (by_ : Int) : l.Perm (turnL l by_).reverse := by
  refine List.Perm.trans ?_ (List.reverse_perm _).symm
  unfold turnL
  split
  · refine List.Perm.trans ?_ List.perm_append_comm
    rw [List.take_append_drop]
  · exact List.Perm.refl _
theorem turn_get (l : List TV) (s : Nat) (hs : s < l.length) (i : Nat) (hi : i < l.length) (h : i < (l.drop s ++ l.take s).length) : (l.drop s ++ l.take s)[i] = l[(i + s) % l.length]'(Nat.mod_lt _ (by omega)) := by
  rw [List.getElem_append]
  split
  · rename_i hlt
    rw [List.length_drop] at hlt
    rw [List.getElem_drop]
    congr 1
    rw [Nat.mod_eq_of_lt (by omega)]
    omega
  · rename_i hlt
    rw [List.length_drop] at hlt
    rw [List.getElem_take]
    congr 1
    rw [List.length_drop, Nat.mod_eq_sub_mod (by omega), Nat.mod_eq_of_lt (by omega)]
    omega
theorem turnL_get (l : List TV) (by_ : Int) (h : 0 < by_) (i : Nat) (hi : i < l.length) : (turnL l by_)[i]'(by rw [turnL_length]; exact hi) = l[(i + by_.toNat % l.length) % l.length]'(Nat.mod_lt _ (by omega)) := by
  have e : turnL l by_ = l.drop (by_.toNat % l.length) ++ l.take (by_.toNat % l.length) := by unfold turnL; rw [if_pos h]
  simp only [e]
  exact turn_get l _ (Nat.mod_lt _ (by omega)) i hi _
theorem turn_step (T : List TV) (i : Nat) (h : i < T.length) : (T.drop i).reverse = (T.drop (i + 1)).reverse ++ [T[i]] := by
  rw [List.drop_eq_getElem_cons h, List.reverse_cons]
end Go.Proofs.YtcmpjdnbjhkhdaaDoor
namespace Go.Proofs.YtcmpjdnbjhkhdaaDoor
set_option linter.unusedSimpArgs false
set_option linter.unusedVariables false
open Go Go.RowKit

theorem choose_k {b : TV → TV → Bool} (z x : TV) (h : x.val.k ≠ 0) : (chooseP b z x).val.k ≠ 0 := by
  unfold chooseP
  split
  · exact h
  · rename_i hn
    intro h0
    exact hn ⟨h, .inl h0⟩
theorem strict_neg {b : TV → TV → Bool} (hb : Strict b) {t x z : TV} (h1 : b t x = false) (h2 : b x z = false) : b t z = false := by
  cases h3 : b t z with
  | false => rfl
  | true =>
    cases h4 : b x t with
    | true => rw [hb.trans _ _ _ h4 h3] at h2; cases h2
    | false =>
      have := hb.tot _ _ h1 h4
      subst this
      rw [h3] at h2; cases h2
theorem choose_assoc {b : TV → TV → Bool} (hb : Strict b) (z x t : TV) : chooseP b z (chooseP b x t) = chooseP b (chooseP b z x) t := by
  by_cases ht : t.val.k = 0
  · rw [choose_null _ t ht, choose_null _ t ht]
  by_cases hx : x.val.k = 0
  · rw [choose_first x t ht hx, choose_null z x hx]
  by_cases hz : z.val.k = 0
  · rw [choose_first z x hx hz, choose_first z _ (choose_k x t ht) hz]
  rw [choose_next z _ (choose_k x t ht) hz, choose_next _ t ht (choose_k z x hx), choose_next x t ht hx, choose_next z x hx hz]
  cases h1 : b t x <;> cases h2 : b x z <;> simp only [if_true, if_false, Bool.false_eq_true, h1, h2]
  · rw [strict_neg hb h1 h2]; simp
  · rw [hb.trans _ _ _ h1 h2]; simp
theorem choose_join {b : TV → TV → Bool} (hb : Strict b) : ∀ (m : List TV) (z : TV), chooseP b z (m.foldl (chooseP b) nilTV) = m.foldl (chooseP b) z := by
  have key : ∀ (m : List TV) (z x : TV), chooseP b z (m.foldl (chooseP b) x) = m.foldl (chooseP b) (chooseP b z x) := by
    intro m
    induction m with
    | nil => intro z x; rfl
    | cons t m ih => intro z x; rw [List.foldl_cons, List.foldl_cons, ih, choose_assoc hb]
  intro m z
  rw [key, choose_null z nilTV rfl]
theorem wrap_add (a b : Int) : wrap64 (wrap64 a + wrap64 b) = wrap64 (a + b) := by unfold wrap64; omega
theorem wrap_wrap (a : Int) : wrap64 (wrap64 a) = wrap64 a := by unfold wrap64; omega
theorem sum_wrapped (l : List TV) : wrap64 (l.foldl sumP (0, 0)).1 = (l.foldl sumP (0, 0)).1 ∧ wrap64 (l.foldl sumP (0, 0)).2 = (l.foldl sumP (0, 0)).2 := by
  have key : ∀ (l : List TV) (s : Int × Int), wrap64 s.1 = s.1 ∧ wrap64 s.2 = s.2 → wrap64 (l.foldl sumP s).1 = (l.foldl sumP s).1 ∧ wrap64 (l.foldl sumP s).2 = (l.foldl sumP s).2 := by
    intro l
    induction l with
    | nil => intro s h; exact h
    | cons t l ih =>
      intro s h
      refine ih _ ?_
      unfold sumP
      split
      · exact ⟨wrap_wrap _, wrap_wrap _⟩
      · exact h
  exact key l (0, 0) ⟨by unfold wrap64; omega, by unfold wrap64; omega⟩
theorem sum_join_plain (l m : List TV) : (wrap64 ((l.foldl sumP (0, 0)).1 + (m.foldl sumP (0, 0)).1), wrap64 ((l.foldl sumP (0, 0)).2 + (m.foldl sumP (0, 0)).2)) = (l ++ m).foldl sumP (0, 0) := by
  have key : ∀ (m : List TV) (s t : Int × Int), wrap64 s.1 = s.1 → wrap64 s.2 = s.2 → (wrap64 (s.1 + (m.foldl sumP t).1), wrap64 (s.2 + (m.foldl sumP t).2)) = m.foldl sumP (wrap64 (s.1 + t.1), wrap64 (s.2 + t.2)) := by
    intro m
    induction m with
    | nil => intro s t h1 h2; rfl
    | cons x m ih =>
      intro s t h1 h2
      rw [List.foldl_cons, List.foldl_cons, ih _ _ h1 h2]
      congr 1
      unfold sumP
      split
      · simp only [Prod.mk.injEq]
        constructor
        · unfold wrap64; omega
        · unfold wrap64; omega
      · rfl
  obtain ⟨h1, h2⟩ := sum_wrapped l
  rw [key m _ (0, 0) h1 h2, List.foldl_append]
  simp only [Int.add_zero, h1, h2]
theorem set_join_plain (l m : List TV) : ((setOf m).map fun v => (⟨0, v⟩ : TV)).foldl setP (setOf l) = setOf (l ++ m) := by
  refine sorted_eq ?_ (setOf_sorted _) fun x => ?_
  · have key : ∀ (ts : List TV) (s : List Val), SortedV s → SortedV (ts.foldl setP s) := by
      intro ts
      induction ts with
      | nil => intro s h; exact h
      | cons t ts ih => intro s h; exact ih _ (setP_sorted h t)
    exact key _ _ (setOf_sorted _)
  · rw [foldl_mem, setOf_mem, setOf_mem]
    simp only [List.mem_map, setOf_mem, List.mem_append]
    constructor
    · rintro (⟨t, ht, h⟩ | ⟨t, ⟨v, ⟨t', ht', h0, rfl⟩, rfl⟩, h, rfl⟩)
      · exact ⟨t, .inl ht, h⟩
      · exact ⟨t', .inr ht', h0, rfl⟩
    · rintro ⟨t, ht | ht, h⟩
      · exact .inl ⟨t, ht, h⟩
      · exact .inr ⟨⟨0, t.val⟩, ⟨t.val, ⟨t, ht, h.1, rfl⟩, rfl⟩, h.1, h.2⟩
/-- what Put writes of what the values 'l' have come to. -/
def chosen (kind : Int) (l : List TV) : TV := l.foldl (chooseP (beforeP kind)) nilTV
def encA (kind : Int) (l : List TV) : List UInt8 :=
  if kind = 1 then encInt (wrap64 l.length) else if kind = 2 then encInt (l.foldl sumP (0, 0)).1 ++ encInt (l.foldl sumP (0, 0)).2
  else if kind = 7 then encInt (setOf l).length ++ encVals (setOf l) else encInt (chosen kind l).time ++ encVal (chosen kind l).val
/-- what is chosen is one of them, or nothing. -/
theorem chosen_mem (b : TV → TV → Bool) (l : List TV) : l.foldl (chooseP b) nilTV = nilTV ∨ l.foldl (chooseP b) nilTV ∈ l := by
  have key : ∀ (l : List TV) (z : TV), l.foldl (chooseP b) z = z ∨ l.foldl (chooseP b) z ∈ l := by
    intro l
    induction l with
    | nil => intro z; exact .inl rfl
    | cons t l ih =>
      intro z
      rw [List.foldl_cons]
      rcases ih (chooseP b z t) with h | h
      · rw [h]
        unfold chooseP
        split
        · exact .inr List.mem_cons_self
        · exact .inl rfl
      · exact .inr (List.mem_cons_of_mem _ h)
  exact key l nilTV
end Go.Proofs.YtcmpjdnbjhkhdaaDoor
