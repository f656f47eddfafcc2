/-
  PROVED HERE: windows that meet, joined until none do: in plain Lean: there is one list of them. No program of its own.
-/
import Derived.Test.YthfgjmdmcoogpaaWinPlain
namespace Go.Proofs.Ythfgjmdmcoogpaa
set_option linter.unusedSimpArgs false
set_option linter.unusedVariables false

def meetW (a b : Win) : Bool := decide (a.1 < b.2) && decide (b.1 < a.2)
def Cov (l : List Win) (t : Int) : Prop := ∃ w ∈ l, w.1 ≤ t ∧ t < w.2
def Intr (l : List Win) (p : Int) : Prop := ∃ w ∈ l, w.1 < p ∧ p < w.2
/-- the list covers what another covers, and is inside where that is. -/
def SameC (l m : List Win) : Prop := (∀ t, Cov l t ↔ Cov m t) ∧ ∀ p, Intr l p ↔ Intr m p
def Full (l : List Win) : Prop := ∀ w ∈ l, w.1 < w.2
def Apart (l : List Win) : Prop := l.Pairwise fun a b => a.2 ≤ b.1
structure Merged (l out : List Win) : Prop where
  full : Full out
  apart : Apart out
  same : SameC out l
theorem SameC.refl (l : List Win) : SameC l l := ⟨fun _ => Iff.rfl, fun _ => Iff.rfl⟩
theorem SameC.trans {a b c : List Win} (h : SameC a b) (k : SameC b c) : SameC a c := ⟨fun t => (h.1 t).trans (k.1 t), fun t => (h.2 t).trans (k.2 t)⟩
theorem SameC.symm {a b : List Win} (h : SameC a b) : SameC b a := ⟨fun t => (h.1 t).symm, fun t => (h.2 t).symm⟩
theorem SameC.of_mem {a b : List Win} (h : ∀ w, w ∈ a ↔ w ∈ b) : SameC a b := ⟨fun t => by unfold Cov; simp only [h], fun t => by unfold Intr; simp only [h]⟩
/-- windows with nothing in them cover nothing. -/
def keepW (w : Win) : Bool := decide (w.1 < w.2)
theorem sameC_filter (l : List Win) : SameC (l.filter keepW) l := by
  constructor
  · intro t
    constructor
    · rintro ⟨w, hw, h⟩; exact ⟨w, (List.mem_filter.1 hw).1, h⟩
    · rintro ⟨w, hw, h⟩; exact ⟨w, List.mem_filter.2 ⟨hw, by unfold keepW; exact decide_eq_true (by omega)⟩, h⟩
  · intro t
    constructor
    · rintro ⟨w, hw, h⟩; exact ⟨w, (List.mem_filter.1 hw).1, h⟩
    · rintro ⟨w, hw, h⟩; exact ⟨w, List.mem_filter.2 ⟨hw, by unfold keepW; exact decide_eq_true (by omega)⟩, h⟩
theorem full_filter (l : List Win) : Full (l.filter keepW) := fun w hw => by
  have := (List.mem_filter.1 hw).2
  unfold keepW at this
  exact of_decide_eq_true this
theorem apart_unique : ∀ (a b : List Win), Full a → Full b → Apart a → Apart b → SameC a b → a = b
  | [], [], _, _, _, _, _ => rfl
  | [], y :: b, _, hb, _, _, h => by
    have hy := hb y List.mem_cons_self
    obtain ⟨w, hw, _⟩ := (h.1 y.1).2 ⟨y, List.mem_cons_self, by omega, hy⟩
    cases hw
  | x :: a, [], ha, _, _, _, h => by
    have hx := ha x List.mem_cons_self
    obtain ⟨w, hw, _⟩ := (h.1 x.1).1 ⟨x, List.mem_cons_self, by omega, hx⟩
    cases hw
  | x :: a, y :: b, ha, hb, pa, pb, h => by
    have hx := ha x List.mem_cons_self
    have hy := hb y List.mem_cons_self
    have qa := List.pairwise_cons.1 pa
    have qb := List.pairwise_cons.1 pb
    have lea : ∀ w ∈ x :: a, x.1 ≤ w.1 := fun w hw => by
      rcases List.mem_cons.1 hw with rfl | hw
      · omega
      · have := qa.1 w hw; omega
    have leb : ∀ w ∈ y :: b, y.1 ≤ w.1 := fun w hw => by
      rcases List.mem_cons.1 hw with rfl | hw
      · omega
      · have := qb.1 w hw; omega
    have e1 : x.1 = y.1 := by
      obtain ⟨w, hw, h1, h2⟩ := (h.1 x.1).1 ⟨x, List.mem_cons_self, by omega, hx⟩
      obtain ⟨v, hv, h3, h4⟩ := (h.1 y.1).2 ⟨y, List.mem_cons_self, by omega, hy⟩
      have := leb w hw; have := lea v hv
      omega
    have e2 : x.2 = y.2 := by
      rcases Int.lt_trichotomy x.2 y.2 with hlt | heq | hgt
      · obtain ⟨w, hw, h1, h2⟩ := (h.2 x.2).2 ⟨y, List.mem_cons_self, by omega, hlt⟩
        rcases List.mem_cons.1 hw with rfl | hw
        · omega
        · have := qa.1 w hw; omega
      · exact heq
      · obtain ⟨w, hw, h1, h2⟩ := (h.2 y.2).1 ⟨x, List.mem_cons_self, by omega, hgt⟩
        rcases List.mem_cons.1 hw with rfl | hw
        · omega
        · have := qb.1 w hw; omega
    have exy : x = y := Prod.ext e1 e2
    subst exy
    have cov_tail : ∀ (l : List Win), (∀ w ∈ l, x.2 ≤ w.1) → ∀ t, Cov l t ↔ Cov (x :: l) t ∧ x.2 ≤ t := fun l hl t => by
      constructor
      · rintro ⟨w, hw, h1, h2⟩
        exact ⟨⟨w, List.mem_cons_of_mem _ hw, h1, h2⟩, by have := hl w hw; omega⟩
      · rintro ⟨⟨w, hw, h1, h2⟩, h3⟩
        rcases List.mem_cons.1 hw with rfl | hw
        · omega
        · exact ⟨w, hw, h1, h2⟩
    have int_tail : ∀ (l : List Win), (∀ w ∈ l, x.2 ≤ w.1) → ∀ t, Intr l t ↔ Intr (x :: l) t ∧ x.2 < t := fun l hl t => by
      constructor
      · rintro ⟨w, hw, h1, h2⟩
        exact ⟨⟨w, List.mem_cons_of_mem _ hw, h1, h2⟩, by have := hl w hw; omega⟩
      · rintro ⟨⟨w, hw, h1, h2⟩, h3⟩
        rcases List.mem_cons.1 hw with rfl | hw
        · omega
        · exact ⟨w, hw, h1, h2⟩
    have ht : SameC a b := ⟨fun t => by rw [cov_tail a qa.1, cov_tail b qb.1, h.1], fun t => by rw [int_tail a qa.1, int_tail b qb.1, h.2]⟩
    rw [apart_unique a b (fun w hw => ha w (List.mem_cons_of_mem _ hw)) (fun w hw => hb w (List.mem_cons_of_mem _ hw)) qa.2 qb.2 ht]
theorem merged_unique {l a b : List Win} (h : Merged l a) (k : Merged l b) : a = b := apart_unique a b h.full k.full h.apart k.apart (h.same.trans k.same.symm)

/-- two that meet are one. -/
def joinW (a b : Win) : Win := (min a.1 b.1, max a.2 b.2)
theorem join_same {a b : Win} (h : meetW a b = true) (r r' : List Win) (hr : ∀ w, w ∈ r' ↔ w = joinW a b ∨ w ∈ r) (m : List Win) (hm : ∀ w, w ∈ m ↔ w = a ∨ w = b ∨ w ∈ r) : SameC r' m := by
  unfold meetW at h
  simp only [Bool.and_eq_true, decide_eq_true_eq] at h
  have j1 : (joinW a b).1 = min a.1 b.1 := rfl
  have j2 : (joinW a b).2 = max a.2 b.2 := rfl
  constructor
  · intro t
    constructor
    · rintro ⟨w, hw, h1, h2⟩
      rcases (hr w).1 hw with rfl | hw
      · rw [j1] at h1; rw [j2] at h2
        by_cases ha : a.1 ≤ t ∧ t < a.2
        · exact ⟨a, (hm a).2 (.inl rfl), ha⟩
        · exact ⟨b, (hm b).2 (.inr (.inl rfl)), by omega⟩
      · exact ⟨w, (hm w).2 (.inr (.inr hw)), h1, h2⟩
    · rintro ⟨w, hw, h1, h2⟩
      rcases (hm w).1 hw with rfl | rfl | hw
      · exact ⟨_, (hr _).2 (.inl rfl), by rw [j1]; omega, by rw [j2]; omega⟩
      · exact ⟨_, (hr _).2 (.inl rfl), by rw [j1]; omega, by rw [j2]; omega⟩
      · exact ⟨w, (hr w).2 (.inr hw), h1, h2⟩
  · intro t
    constructor
    · rintro ⟨w, hw, h1, h2⟩
      rcases (hr w).1 hw with rfl | hw
      · rw [j1] at h1; rw [j2] at h2
        by_cases ha : a.1 < t ∧ t < a.2
        · exact ⟨a, (hm a).2 (.inl rfl), ha⟩
        · exact ⟨b, (hm b).2 (.inr (.inl rfl)), by omega⟩
      · exact ⟨w, (hm w).2 (.inr (.inr hw)), h1, h2⟩
    · rintro ⟨w, hw, h1, h2⟩
      rcases (hm w).1 hw with rfl | rfl | hw
      · exact ⟨_, (hr _).2 (.inl rfl), by rw [j1]; omega, by rw [j2]; omega⟩
      · exact ⟨_, (hr _).2 (.inl rfl), by rw [j1]; omega, by rw [j2]; omega⟩
      · exact ⟨w, (hr w).2 (.inr hw), h1, h2⟩

/-- what has been merged of the first so many, the next ones beginning no earlier. -/
structure Swept (pre out : List Win) : Prop where
  full : Full out
  apart : Apart out
  same : SameC out pre
  low : ∀ w ∈ out, ∃ v ∈ pre, w.1 = v.1
theorem Swept.nil : Swept [] [] := ⟨fun w hw => (by cases hw), List.Pairwise.nil, SameC.refl _, fun w hw => (by cases hw)⟩
theorem sameC_append {a b : List Win} (h : SameC a b) (x : Win) : SameC (a ++ [x]) (b ++ [x]) := by
  constructor
  · intro t
    have := h.1 t
    unfold Cov at this ⊢
    simp only [List.mem_append, List.mem_singleton, or_and_right, exists_or, exists_eq_left, this]
  · intro t
    have := h.2 t
    unfold Intr at this ⊢
    simp only [List.mem_append, List.mem_singleton, or_and_right, exists_or, exists_eq_left, this]
theorem Swept.new {pre out : List Win} (h : Swept pre out) {x : Win} (hx : x.1 < x.2) (ha : ∀ w ∈ out, w.2 ≤ x.1) : Swept (pre ++ [x]) (out ++ [x]) :=
  ⟨fun w hw => (List.mem_append.1 hw).elim (h.full w) fun e => by obtain rfl := List.mem_singleton.1 e; exact hx,
   List.pairwise_append.2 ⟨h.apart, List.pairwise_singleton _ _, fun a ha' b hb => by obtain rfl := List.mem_singleton.1 hb; exact ha a ha'⟩,
   sameC_append h.same x,
   fun w hw => (List.mem_append.1 hw).elim (fun hw => let ⟨v, hv, e⟩ := h.low w hw; ⟨v, List.mem_append_left _ hv, e⟩) fun e => by obtain rfl := List.mem_singleton.1 e; exact ⟨w, List.mem_append_right _ (List.mem_singleton.2 rfl), rfl⟩⟩
theorem Swept.first {pre out : List Win} (h : Swept pre out) {x : Win} (hx : x.1 < x.2) (h0 : out = []) : Swept (pre ++ [x]) (out ++ [x]) := h.new hx (fun w hw => by rw [h0] at hw; cases hw)
theorem Swept.apart_last {pre a : List Win} {z x : Win} (h : Swept pre (a ++ [z])) (hz : z.1 ≤ x.1) (hx : x.1 < x.2) (hm : meetW z x = false) : ∀ w ∈ a ++ [z], w.2 ≤ x.1 := by
  unfold meetW at hm
  have hzf := h.full z (List.mem_append_right _ (List.mem_singleton.2 rfl))
  have hzx : z.2 ≤ x.1 := by
    by_cases h1 : z.1 < x.2 <;> by_cases h2 : x.1 < z.2 <;> simp [h1, h2] at hm <;> omega
  intro w hw
  rcases List.mem_append.1 hw with hw | hw
  · have := (List.pairwise_append.1 h.apart).2.2 w hw z (List.mem_singleton.2 rfl); omega
  · obtain rfl := List.mem_singleton.1 hw; exact hzx
theorem Swept.join {pre a : List Win} {z x : Win} (h : Swept pre (a ++ [z])) (hz : z.1 ≤ x.1) (hx : x.1 < x.2) (hm : meetW z x = true) : Swept (pre ++ [x]) (a ++ [(z.1, max z.2 x.2)]) := by
  have hzf := h.full z (List.mem_append_right _ (List.mem_singleton.2 rfl))
  have hj : joinW z x = (z.1, max z.2 x.2) := by unfold joinW; rw [Int.min_eq_left hz]
  refine ⟨fun w hw => ?_, ?_, ?_, fun w hw => ?_⟩
  · rcases List.mem_append.1 hw with hw | hw
    · exact h.full w (List.mem_append_left _ hw)
    · obtain rfl := List.mem_singleton.1 hw; show z.1 < max z.2 x.2; omega
  · have hp := List.pairwise_append.1 h.apart
    exact List.pairwise_append.2 ⟨hp.1, List.pairwise_singleton _ _, fun u hu v hv => by obtain rfl := List.mem_singleton.1 hv; exact hp.2.2 u hu z (List.mem_singleton.2 rfl)⟩
  · refine SameC.trans ?_ (sameC_append h.same x)
    refine join_same hm a _ (fun w => ?_) _ (fun w => ?_)
    · rw [hj]; simp only [List.mem_append, List.mem_singleton]; exact Or.comm
    · simp only [List.mem_append, List.mem_singleton]
      constructor
      · rintro ((h | h) | h)
        · exact .inr (.inr h)
        · exact .inl h
        · exact .inr (.inl h)
      · rintro (h | h | h)
        · exact .inl (.inr h)
        · exact .inr h
        · exact .inl (.inl h)
  · rcases List.mem_append.1 hw with hw | hw
    · obtain ⟨v, hv, e⟩ := h.low w (List.mem_append_left _ hw); exact ⟨v, List.mem_append_left _ hv, e⟩
    · obtain rfl := List.mem_singleton.1 hw
      obtain ⟨v, hv, e⟩ := h.low z (List.mem_append_right _ (List.mem_singleton.2 rfl)); exact ⟨v, List.mem_append_left _ hv, e⟩
theorem Swept.merged {pre out l : List Win} (h : Swept pre out) (k : SameC pre l) : Merged l out := ⟨h.full, h.apart, h.same.trans k⟩

/-- no two meet, in the order of their beginnings: they stand apart. -/
theorem apart_of {l : List Win} (hf : Full l) (hs : l.Pairwise fun a b => a.1 ≤ b.1) (hm : l.Pairwise fun a b => meetW a b = false) : Apart l := by
  have h := hs.and hm
  refine h.imp_of_mem fun {a b} ha hb ⟨h1, h2⟩ => ?_
  have := hf a ha; have := hf b hb
  unfold meetW at h2
  by_cases h3 : a.1 < b.2 <;> by_cases h4 : b.1 < a.2 <;> simp [h3, h4] at h2 <;> omega
/-- each that was handed in lies within one. -/
theorem Merged.within {l out : List Win} (h : Merged l out) {w : Win} (hw : w ∈ l) (hf : w.1 < w.2) : ∃ m ∈ out, m.1 ≤ w.1 ∧ w.2 ≤ m.2 := by
  obtain ⟨m, hm, h1, h2⟩ := (h.same.1 w.1).2 ⟨w, hw, by omega, hf⟩
  by_cases h3 : w.2 ≤ m.2
  · exact ⟨m, hm, h1, h3⟩
  · obtain ⟨m', hm', h4, h5⟩ := (h.same.2 m.2).2 ⟨w, hw, by omega, by omega⟩
    exfalso
    obtain ⟨i, hi, rfl⟩ := List.getElem_of_mem hm
    obtain ⟨j, hj, rfl⟩ := List.getElem_of_mem hm'
    rcases Nat.lt_trichotomy i j with hij | rfl | hij
    · have := List.pairwise_iff_getElem.1 h.apart i j hi hj hij; omega
    · omega
    · have := List.pairwise_iff_getElem.1 h.apart j i hj hi hij; omega
end Go.Proofs.Ythfgjmdmcoogpaa
