/-
  PROVED HERE: in plain Lean: values taken together, as the program takes them and as the document does: they come to the same. No program of its own.
-/
import Derived.Test.YtcmpjdnbjhkhdaaDoorOrdTotal
namespace Go.Proofs.YtcmpjdnbjhkhdaaDoor
set_option linter.unusedSimpArgs false
set_option linter.unusedVariables false
open Go Go.RowKit

structure TV where
  time : Int
  val : Val
def nilV : Val := ⟨0, 0, ByteArray.empty⟩
def nilTV : TV := ⟨0, nilV⟩
def intV (n : Int) : Val := ⟨1, n, ByteArray.empty⟩
def byTime (a b : TV) : Int := orL [cmpI a.time b.time, compareV a.val b.val]
def byValue (a b : TV) : Int := orL [compareV a.val b.val, cmpI a.time b.time]
/-- one step of a chooser. -/
def chooseP (before : TV → TV → Bool) (kept t : TV) : TV := if t.val.k ≠ 0 ∧ (kept.val.k = 0 ∨ before t kept = true) then t else kept
def some' (l : List TV) : List TV := l.filter fun t => decide (t.val.k ≠ 0)
/-- the document's: the first one, and each better one after it. -/
def chooseR (better : TV → TV → Bool) : List TV → TV
  | [] => nilTV
  | x :: l => l.foldl (fun x y => if better x y then y else x) x
theorem chooseP_some (before : TV → TV → Bool) (l : List TV) (kept : TV) : l.foldl (chooseP before) kept = (some' l).foldl (chooseP before) kept := by
  induction l generalizing kept with
  | nil => rfl
  | cons t l ih =>
    unfold some' at *
    rw [List.foldl_cons, List.filter_cons]
    by_cases h : t.val.k = 0
    · have e : chooseP before kept t = kept := by unfold chooseP; rw [if_neg (by simp [h])]
      rw [e, if_neg (by simp [h])]
      exact ih kept
    · rw [if_pos (by simp [h]), List.foldl_cons]
      exact ih _
theorem some_ne {l : List TV} {t : TV} (h : t ∈ some' l) : t.val.k ≠ 0 := by
  have := (List.mem_filter.1 h).2
  simpa using this
/-- the two ways go together where they choose alike, up to what is not seen. -/
structure Alike (E : TV → TV → Prop) (before better : TV → TV → Bool) : Prop where
  refl : ∀ a, E a a
  val : ∀ a b, E a b → a.val = b.val
  to : ∀ a b x, E a b → before x a = true → better b x = true ∨ E x b
  back : ∀ a b x, E a b → better b x = true → before x a = true ∨ E a x
theorem choose_go {E : TV → TV → Prop} {before better : TV → TV → Bool} (hb : Alike E before better) :
    ∀ (l : List TV) (a b : TV), (∀ t ∈ l, t.val.k ≠ 0) → E a b → a.val.k ≠ 0 → (l.foldl (chooseP before) a).val = (l.foldl (fun x y => if better x y then y else x) b).val
  | [], a, b, _, h, h0 => hb.val _ _ h
  | t :: l, a, b, hl, h, h0 => by
    rw [List.foldl_cons, List.foldl_cons]
    have ht := hl t List.mem_cons_self
    have h1 := hb.to a b t h
    have h2 := hb.back a b t h
    refine choose_go hb l _ _ (fun x hx => hl x (List.mem_cons_of_mem _ hx)) ?_ ?_
    · unfold chooseP
      cases hp : before t a with
      | true =>
        rw [if_pos ⟨ht, .inr rfl⟩]
        cases hq : better b t with
        | true => rw [if_pos rfl]; exact hb.refl _
        | false =>
          rw [if_neg (by simp)]
          rcases h1 hp with hr | hr
          · rw [hq] at hr; cases hr
          · exact hr
      | false =>
        rw [if_neg (by rintro ⟨_, h | h⟩; exact h0 h; cases h)]
        cases hq : better b t with
        | true =>
          rw [if_pos rfl]
          rcases h2 hq with hr | hr
          · rw [hp] at hr; cases hr
          · exact hr
        | false => rw [if_neg (by simp)]; exact h
    · unfold chooseP
      split
      · exact ht
      · exact h0
theorem choose_same {E : TV → TV → Prop} {before better : TV → TV → Bool} (hb : Alike E before better) (l : List TV) :
    (l.foldl (chooseP before) nilTV).val = (chooseR better (some' l)).val := by
  rw [chooseP_some]
  have hs : ∀ t ∈ some' l, t.val.k ≠ 0 := fun t h => some_ne h
  generalize some' l = s at hs
  cases s with
  | nil => rfl
  | cons t s =>
    have ht := hs t List.mem_cons_self
    have e : chooseP before nilTV t = t := by unfold chooseP; rw [if_pos ⟨ht, .inl rfl⟩]
    rw [List.foldl_cons, e]
    exact choose_go hb s t t (fun x hx => hs x (List.mem_cons_of_mem _ hx)) (hb.refl _) ht

def beforeP (kind : Int) (a b : TV) : Bool :=
  if kind = 3 then decide (byValue a b * 1 < 0) else if kind = 4 then decide (byValue a b * -1 < 0) else if kind = 5 then decide (byTime a b * 1 < 0) else decide (byTime a b * -1 < 0)
def betterR (kind : Int) (a b : TV) : Bool :=
  if kind = 3 then beforeV b.val a.val else if kind = 4 then beforeV a.val b.val else if kind = 5 then decide (b.time < a.time) || (decide (b.time = a.time) && beforeV b.val a.val) else decide (a.time < b.time) || (decide (b.time = a.time) && beforeV a.val b.val)
theorem beforeV_cmp (x y : Val) : beforeV x y = decide (compareV x y < 0) := by
  have h := compareV_eq x y
  rw [h]
  have t := eqV_tri x y
  unfold signI
  cases hb : beforeV x y <;> cases he : eqV x y <;> simp [hb, he] at t ⊢
theorem byValue_neg (a b : TV) : byValue b a = -(byValue a b) := by
  unfold byValue
  rw [orL2, orL2, compareV_total.neg a.val b.val, cmpI_total.neg a.time b.time]
  by_cases h : compareV a.val b.val = 0
  · rw [if_pos h, if_pos (by omega)]
  · rw [if_neg h, if_neg (by omega)]
theorem min_alike : Alike (fun a b => a.val = b.val) (beforeP 3) (betterR 3) := by
  refine ⟨fun _ => rfl, fun _ _ h => h, fun a b x h hx => ?_, fun a b x h hx => ?_⟩
  · unfold beforeP at hx
    unfold betterR
    rw [if_pos rfl] at hx ⊢
    have hx := of_decide_eq_true hx
    unfold byValue at hx
    rw [orL2] at hx
    by_cases e : compareV x.val a.val = 0
    · exact .inr (((compareV_total.eq _ _).1 e).trans h)
    · rw [if_neg e] at hx
      rw [← h, beforeV_cmp]
      exact .inl (decide_eq_true (by omega))
  · unfold betterR at hx
    unfold beforeP
    rw [if_pos rfl] at hx ⊢
    rw [beforeV_cmp] at hx
    have hx := of_decide_eq_true hx
    unfold byValue
    rw [orL2, h, if_neg (by omega)]
    exact .inl (decide_eq_true (by omega))
theorem max_alike : Alike (fun a b => a.val = b.val) (beforeP 4) (betterR 4) := by
  refine ⟨fun _ => rfl, fun _ _ h => h, fun a b x h hx => ?_, fun a b x h hx => ?_⟩
  · unfold beforeP at hx
    unfold betterR
    rw [if_neg (by omega), if_pos rfl] at hx ⊢
    have hx := of_decide_eq_true hx
    unfold byValue at hx
    rw [orL2] at hx
    have n := compareV_total.neg x.val a.val
    by_cases e : compareV x.val a.val = 0
    · exact .inr (((compareV_total.eq _ _).1 e).trans h)
    · rw [if_neg e] at hx
      rw [← h, beforeV_cmp]
      exact .inl (decide_eq_true (by omega))
  · unfold betterR at hx
    unfold beforeP
    rw [if_neg (by omega), if_pos rfl] at hx ⊢
    rw [beforeV_cmp] at hx
    have hx := of_decide_eq_true hx
    have n := compareV_total.neg x.val b.val
    unfold byValue
    rw [orL2, h, if_neg (by omega)]
    exact .inl (decide_eq_true (by omega))
theorem byTime_lt {a b : TV} (h : a.time < b.time) : byTime a b = -1 := by
  unfold byTime cmpI
  rw [orL2, if_pos h, if_neg (by omega)]
theorem byTime_gt {a b : TV} (h : b.time < a.time) : byTime a b = 1 := by
  unfold byTime cmpI
  rw [orL2, if_neg (show ¬ a.time < b.time by omega), if_pos h, if_neg (by omega)]
theorem byTime_eq {a b : TV} (h : a.time = b.time) : byTime a b = compareV a.val b.val := by
  unfold byTime cmpI
  rw [orL2, if_neg (show ¬ a.time < b.time by omega), if_neg (show ¬ b.time < a.time by omega), if_pos rfl]
theorem byTime_neg (a b : TV) : byTime b a = -(byTime a b) := by
  rcases Int.lt_trichotomy a.time b.time with h | h | h
  · rw [byTime_lt h, byTime_gt h]; rfl
  · rw [byTime_eq h, byTime_eq h.symm, compareV_total.neg]
  · rw [byTime_gt h, byTime_lt h]
theorem first_same (a x : TV) : beforeP 5 x a = betterR 5 a x := by
  have e1 : beforeP 5 x a = decide (byTime x a * 1 < 0) := by unfold beforeP; simp
  have e2 : betterR 5 a x = (decide (x.time < a.time) || (decide (x.time = a.time) && beforeV x.val a.val)) := by unfold betterR; simp
  rw [e1, e2, beforeV_cmp]
  rcases Int.lt_trichotomy x.time a.time with h | h | h
  · rw [byTime_lt h, decide_eq_true h]; rfl
  · rw [byTime_eq h, decide_eq_false (show ¬ x.time < a.time by omega), decide_eq_true h]; simp
  · rw [byTime_gt h, decide_eq_false (show ¬ x.time < a.time by omega), decide_eq_false (show ¬ x.time = a.time by omega)]; rfl
theorem last_same (a x : TV) : beforeP 6 x a = betterR 6 a x := by
  have e1 : beforeP 6 x a = decide (byTime x a * -1 < 0) := by unfold beforeP; simp
  have e2 : betterR 6 a x = (decide (a.time < x.time) || (decide (x.time = a.time) && beforeV a.val x.val)) := by unfold betterR; simp
  rw [e1, e2, beforeV_cmp]
  have n := compareV_total.neg x.val a.val
  rcases Int.lt_trichotomy x.time a.time with h | h | h
  · rw [byTime_lt h, decide_eq_false (show ¬ a.time < x.time by omega), decide_eq_false (show ¬ x.time = a.time by omega)]; rfl
  · rw [byTime_eq h, decide_eq_false (show ¬ a.time < x.time by omega), decide_eq_true h, n, Bool.false_or, Bool.true_and]
    rw [Bool.eq_iff_iff, decide_eq_true_eq, decide_eq_true_eq]
    omega
  · rw [byTime_gt h, decide_eq_true h]; rfl
theorem eq_alike {before better : TV → TV → Bool} (h : ∀ a x, before x a = better a x) : Alike (fun a b => a = b) before better :=
  ⟨fun _ => rfl, fun _ _ h => by rw [h], fun a b x e hx => .inl (by rw [← e, ← h]; exact hx), fun a b x e hx => .inl (by rw [e, h]; exact hx)⟩

/-- sums: how many whole numbers, their sum. -/
def sumP (s : Int × Int) (t : TV) : Int × Int := if t.val.k = 1 then (wrap64 (s.1 + 1), wrap64 (s.2 + t.val.n)) else s
theorem sumP_some (l : List TV) (s : Int × Int) : l.foldl sumP s = (some' l).foldl sumP s := by
  induction l generalizing s with
  | nil => rfl
  | cons t l ih =>
    unfold some' at *
    rw [List.foldl_cons, List.filter_cons]
    by_cases h : t.val.k = 0
    · have e : sumP s t = s := by unfold sumP; rw [if_neg (by omega)]
      rw [e, if_neg (by simp [h])]
      exact ih s
    · rw [if_pos (by simp [h]), List.foldl_cons]
      exact ih _

/-- values that are not the same, in their order. -/
def SortedV (l : List Val) : Prop := l.Pairwise fun a b => compareV a b < 0
/-- where a value is, or is to be laid. -/
def placeV (l : List Val) (x : Val) : Nat := (l.takeWhile fun y => decide (compareV y x < 0)).length
def hasV (l : List Val) (x : Val) : Bool := l.any fun y => decide (compareV y x = 0)
def setP (l : List Val) (t : TV) : List Val := if t.val.k ≠ 0 ∧ hasV l t.val = false then l.take (placeV l t.val) ++ t.val :: l.drop (placeV l t.val) else l
theorem hasV_mem {l : List Val} {x : Val} : hasV l x = true ↔ x ∈ l := by
  unfold hasV
  rw [List.any_eq_true]
  constructor
  · rintro ⟨y, hy, h⟩
    have := (compareV_total.eq _ _).1 (of_decide_eq_true h)
    subst this
    exact hy
  · intro h
    exact ⟨x, h, decide_eq_true ((compareV_total.eq _ _).2 rfl)⟩
theorem leV_lt {a b c : Val} (h : compareV a b < 0) (k : compareV b c < 0 ∨ b = c) : compareV a c < 0 := by
  rcases k with k | rfl
  · exact compareV_total.trans _ _ _ h k
  · exact h
theorem takeWhile_prefix {α : Type} (p : α → Bool) (l : List α) (i : Nat) (h : i < l.length) : i < (l.takeWhile p).length → p l[i] = true := by
  induction l generalizing i with
  | nil => cases h
  | cons x l ih =>
    intro hi
    rw [List.takeWhile_cons] at hi
    split at hi
    · rename_i hp
      cases i with
      | zero => exact hp
      | succ i => exact ih i (by simpa using h) (by simpa using hi)
    · cases hi
theorem takeWhile_stop {α : Type} (p : α → Bool) (l : List α) (h : (l.takeWhile p).length < l.length) : p (l[(l.takeWhile p).length]) = false := by
  induction l with
  | nil => cases h
  | cons x l ih =>
    by_cases hp : p x = true
    · have e : (x :: l).takeWhile p = x :: l.takeWhile p := by rw [List.takeWhile_cons, if_pos hp]
      simp only [e, List.length_cons] at h ⊢
      exact ih (by omega)
    · have e : (x :: l).takeWhile p = [] := by rw [List.takeWhile_cons, if_neg hp]
      simp only [e, List.length_nil]
      simpa using hp
theorem place_le (l : List Val) (x : Val) : placeV l x ≤ l.length := by
  unfold placeV
  exact (List.takeWhile_sublist _).length_le
theorem place_lt {l : List Val} (hs : SortedV l) (x : Val) {h : Nat} (hh : h < l.length) : compareV l[h] x < 0 ↔ h < placeV l x := by
  constructor
  · intro hc
    rcases Nat.lt_or_ge h (placeV l x) with hp | hp
    · exact hp
    · exfalso
      have hlt : placeV l x < l.length := Nat.lt_of_le_of_lt hp hh
      have hst : decide (compareV (l[placeV l x]'hlt) x < 0) = false := takeWhile_stop _ l hlt
      have hst := of_decide_eq_false hst
      rcases Nat.eq_or_lt_of_le hp with e | hlt2
      · subst e; exact hst hc
      · exact hst (compareV_total.trans _ _ _ (List.pairwise_iff_getElem.1 hs _ _ hlt hh hlt2) hc)
  · intro hp
    have := takeWhile_prefix (fun y => decide (compareV y x < 0)) l h hh hp
    exact of_decide_eq_true this
theorem place_has {l : List Val} (hs : SortedV l) (x : Val) : hasV l x = (if h : placeV l x < l.length then decide (compareV (l[placeV l x]'h) x = 0) else false) := by
  by_cases h : placeV l x < l.length
  · rw [dif_pos h, Bool.eq_iff_iff, hasV_mem, decide_eq_true_eq]
    constructor
    · intro hm
      obtain ⟨j, hj, rfl⟩ := List.getElem_of_mem hm
      have h0 := (compareV_total.eq l[j] l[j]).2 rfl
      have hnj : ¬ j < placeV l l[j] := fun e => by have := (place_lt hs l[j] hj).2 e; omega
      by_cases e : j = placeV l l[j]
      · have e2 : l[placeV l l[j]]'h = l[j] := by congr 1; exact e.symm
        rw [e2]; exact h0
      · have hlt := List.pairwise_iff_getElem.1 hs _ _ h hj (by omega)
        exact absurd ((place_lt hs l[j] h).1 hlt) (by omega)
    · intro hc
      rw [← (compareV_total.eq _ _).1 hc]
      exact List.getElem_mem _
  · rw [dif_neg h, ← Bool.not_eq_true, hasV_mem]
    intro hm
    obtain ⟨j, hj, rfl⟩ := List.getElem_of_mem hm
    have h0 := (compareV_total.eq l[j] l[j]).2 rfl
    have := (place_lt hs l[j] hj).2 (by omega)
    omega
theorem setP_sorted {l : List Val} (hs : SortedV l) (t : TV) : SortedV (setP l t) := by
  unfold setP
  split
  · rename_i hc
    have hno := hc.2
    have hne : ∀ y ∈ l, compareV y t.val ≠ 0 := fun y hy h => by
      have := (compareV_total.eq _ _).1 h
      subst this
      rw [hasV_mem.2 hy] at hno
      cases hno
    refine List.pairwise_append.2 ⟨hs.sublist (List.take_sublist _ _), List.pairwise_cons.2 ⟨fun y hy => ?_, hs.sublist (List.drop_sublist _ _)⟩, fun a ha b hb => ?_⟩
    · obtain ⟨j, hj, rfl⟩ := List.getElem_of_mem hy
      rw [List.length_drop] at hj
      rw [List.getElem_drop]
      have hjl : placeV l t.val + j < l.length := by omega
      have h1 := hne _ (List.getElem_mem hjl)
      have h2 : ¬ compareV l[placeV l t.val + j] t.val < 0 := fun h => by have := (place_lt hs t.val hjl).1 h; omega
      have := compareV_total.neg l[placeV l t.val + j] t.val
      omega
    · obtain ⟨i, hi, rfl⟩ := List.getElem_of_mem ha
      rw [List.length_take] at hi
      rw [List.getElem_take]
      have hil : i < l.length := by omega
      have h1 : compareV l[i] t.val < 0 := (place_lt hs t.val hil).2 (by omega)
      rcases List.mem_cons.1 hb with rfl | hb
      · exact h1
      · obtain ⟨j, hj, rfl⟩ := List.getElem_of_mem hb
        rw [List.length_drop] at hj
        rw [List.getElem_drop]
        exact List.pairwise_iff_getElem.1 hs _ _ hil (by omega) (by omega)
  · exact hs
theorem setP_mem {l : List Val} {t : TV} {y : Val} : y ∈ setP l t ↔ y ∈ l ∨ (t.val.k ≠ 0 ∧ y = t.val) := by
  unfold setP
  split
  · rename_i hc
    constructor
    · intro h
      rcases List.mem_append.1 h with h | h
      · exact .inl (List.mem_of_mem_take h)
      · rcases List.mem_cons.1 h with rfl | h
        · exact .inr ⟨hc.1, rfl⟩
        · exact .inl (List.mem_of_mem_drop h)
    · rintro (h | ⟨_, rfl⟩)
      · rw [← List.take_append_drop (placeV l t.val) l] at h
        rcases List.mem_append.1 h with h | h
        · exact List.mem_append_left _ h
        · exact List.mem_append_right _ (List.mem_cons_of_mem _ h)
      · exact List.mem_append_right _ List.mem_cons_self
  · rename_i hc
    constructor
    · exact .inl
    · rintro (h | ⟨h1, rfl⟩)
      · exact h
      · exact hasV_mem.1 (by
          cases hh : hasV l t.val with
          | true => rfl
          | false => exact absurd ⟨h1, hh⟩ hc)
theorem setP_length {l : List Val} {t : TV} (h : t.val.k ≠ 0) : (setP l t).length = l.length + (if hasV l t.val then 0 else 1) := by
  unfold setP
  cases hb : hasV l t.val with
  | true => rw [if_neg (by rintro ⟨_, h⟩; cases h)]; rfl
  | false =>
    rw [if_pos ⟨h, rfl⟩]
    have := place_le l t.val
    simp
    omega
def setOf (l : List TV) : List Val := l.foldl setP []
theorem setOf_snoc (l : List TV) (t : TV) : setOf (l ++ [t]) = setP (setOf l) t := by unfold setOf; rw [List.foldl_append]; rfl
theorem setOf_sorted (l : List TV) : SortedV (setOf l) := by
  suffices h : ∀ (l : List TV) (s : List Val), SortedV s → SortedV (l.foldl setP s) from h l [] List.Pairwise.nil
  intro l
  induction l with
  | nil => intro s hs; exact hs
  | cons t l ih => intro s hs; exact ih _ (setP_sorted hs t)
theorem foldl_mem (y : Val) : ∀ (l : List TV) (s : List Val), y ∈ l.foldl setP s ↔ y ∈ s ∨ ∃ t ∈ l, t.val.k ≠ 0 ∧ y = t.val
  | [], s => by simp
  | t :: l, s => by
    rw [List.foldl_cons, foldl_mem y l (setP s t), setP_mem]
    constructor
    · rintro ((h | h) | ⟨t', h, h'⟩)
      · exact .inl h
      · exact .inr ⟨t, List.mem_cons_self, h⟩
      · exact .inr ⟨t', List.mem_cons_of_mem _ h, h'⟩
    · rintro (h | ⟨t', h, h'⟩)
      · exact .inl (.inl h)
      · rcases List.mem_cons.1 h with rfl | h
        · exact .inl (.inr h')
        · exact .inr ⟨t', h, h'⟩
theorem setOf_mem {l : List TV} {y : Val} : y ∈ setOf l ↔ ∃ t ∈ l, t.val.k ≠ 0 ∧ y = t.val := by
  unfold setOf
  rw [foldl_mem]
  simp
theorem setOf_some (l : List TV) : setOf (some' l) = setOf l := by
  suffices h : ∀ (l : List TV) (s : List Val), (some' l).foldl setP s = l.foldl setP s from h l []
  intro l
  induction l with
  | nil => intro s; rfl
  | cons t l ih =>
    intro s
    unfold some' at *
    rw [List.foldl_cons, List.filter_cons]
    by_cases h : t.val.k = 0
    · have e : setP s t = s := by unfold setP; rw [if_neg (by simp [h])]
      rw [e, if_neg (by simp [h])]
      exact ih s
    · rw [if_pos (by simp [h]), List.foldl_cons]
      exact ih _
theorem setOf_len (l : List TV) : (setOf l).length ≤ l.length := by
  suffices h : ∀ (l : List TV) (s : List Val), (l.foldl setP s).length ≤ s.length + l.length from by have := h l []; unfold setOf; simpa using this
  intro l
  induction l with
  | nil => intro s; simp
  | cons t l ih =>
    intro s
    rw [List.foldl_cons]
    have := ih (setP s t)
    have h2 : (setP s t).length ≤ s.length + 1 := by
      by_cases h : t.val.k = 0
      · unfold setP; rw [if_neg (by simp [h])]; omega
      · rw [setP_length h]; split <;> omega
    simp only [List.length_cons]
    omega
/-- what many values come to. -/
def foldV (kind : Int) (l : List TV) : Val :=
  if kind = 1 then intV l.length
  else if kind = 2 then (let s := l.foldl sumP (0, 0); if s.1 = 0 then nilV else intV s.2)
  else if kind = 7 then intV (setOf l).length
  else (l.foldl (chooseP (beforeP kind)) nilTV).val
end Go.Proofs.YtcmpjdnbjhkhdaaDoor
