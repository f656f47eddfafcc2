/-
  PROVED HERE: the gate and the document's gate go together, in plain Lean. No program of its own.
-/
import Derived.Test.YthfgjmdmcoogpaaDoorRefOpen
import Derived.Test.YthfgjmdmcoogpaaDoorKeepsPlain
namespace Go.Proofs.YthfgjmdmcoogpaaDoor
open Go Go.RowKit

/-- a gate and the document's gate that go together. -/
structure Twin (g : Gt) (r : Rg) : Prop where
  ts : r.ts = g.lanes.map (·.1)
  ms : r.ms = g.lanes.map (fun l => if l.2 then g.mark else 0)
  told : r.told = g.time
  mark : 0 ≤ g.mark
  none : g.mark = 0 → ∀ l ∈ g.lanes, l.2 = false
  some : g.mark ≠ 0 → ∃ l ∈ g.lanes, l.2 = true
theorem Twin.start (c : Nat) : Twin ⟨List.replicate c (-1, false), -1, 0⟩ ⟨List.replicate c (-1), List.replicate c 0, -1⟩ :=
  ⟨by simp, by simp, rfl, Int.le_refl _, fun _ l hl => by rw [List.eq_of_mem_replicate hl], fun h => absurd rfl h⟩
theorem Twin.open_ {g : Gt} {r : Rg} (h : Twin g r) (k : Int) : rOpen r k = openG g k := by
  unfold rOpen openG
  rw [h.ms, List.getElem?_map]
  congr 1
  cases hx : g.lanes[k.toNat]? with
  | none => rfl
  | some l =>
    obtain ⟨t, b⟩ := l
    cases b with
    | false => simp
    | true =>
      have hm : g.mark ≠ 0 := fun h0 => by
        have := h.none h0 _ (List.mem_of_getElem? hx)
        simp at this
      simp [hm]

theorem fold_min_iff {t : Int} : ∀ {l : List Int} {b : Int}, (b ≤ t ∧ ∀ x ∈ l, b ≤ x) ↔ b ≤ l.foldl min t
  | [], b => by simp
  | x :: l, b => by
    rw [List.foldl_cons, ← fold_min_iff (t := min t x)]
    simp only [List.mem_cons, forall_eq_or_imp]
    constructor
    · rintro ⟨h1, h2, h3⟩; exact ⟨by omega, h3⟩
    · rintro ⟨h1, h2⟩; exact ⟨by omega, by omega, h2⟩
theorem set_same {l : List Int} {n : Nat} (hn : n < l.length) {x : Int} (h : l[n] = x) : l.set n x = l := by
  subst h
  exact List.set_getElem_self ..
theorem least_set {ls : List (Int × Bool)} {n : Nat} (h : n < ls.length) (t : Int) (b : Bool) : ((ls.map (·.1)).set n t).foldl min t = leastT (ls.set n (t, b)) := by
  have hm : (ls.map (·.1)).set n t = (ls.set n (t, b)).map (·.1) := by rw [List.map_set]
  rw [hm]
  have hne : ls.set n (t, b) ≠ [] := fun e => by have := congrArg List.length e; rw [List.length_set, List.length_nil] at this; omega
  have hmem : (t, b) ∈ ls.set n (t, b) := by
    have h' : n < (ls.set n (t, b)).length := by simpa using h
    have := List.getElem_mem h'
    simpa using this
  refine Int.le_antisymm (leastT_ge hne fun l hl => ?_) (fold_min_iff.1 ⟨leastT_le hmem, fun x hx => ?_⟩)
  · exact (fold_min_iff.2 (Int.le_refl _)).2 _ (List.mem_map_of_mem hl)
  · obtain ⟨l, hl, rfl⟩ := List.mem_map.1 hx
    exact leastT_le hl
theorem allUpto_iff {f : Nat → Bool} : ∀ {n : Nat}, allUpto f n = true ↔ ∀ j, j < n → f j = true
  | 0 => by simp [allUpto]
  | n + 1 => by
    rw [allUpto, Bool.and_eq_true, allUpto_iff]
    constructor
    · rintro ⟨h1, h2⟩ j hj
      by_cases he : j = n
      · rw [he]; exact h2
      · exact h1 j (by omega)
    · intro h
      exact ⟨fun j hj => h j (by omega), h n (by omega)⟩
theorem Twin.any {g : Gt} {r : Rg} (h : Twin g r) (m : Int) : r.ms.any (fun x => x != 0 && x != m) = decide (g.mark ≠ 0 ∧ m ≠ g.mark) := by
  rw [Bool.eq_iff_iff, List.any_eq_true, decide_eq_true_eq, h.ms]
  constructor
  · rintro ⟨x, hx, hb⟩
    obtain ⟨l, hl, rfl⟩ := List.mem_map.1 hx
    cases hl2 : l.2 with
    | false => simp [hl2] at hb
    | true =>
      simp [hl2] at hb
      exact ⟨hb.1, fun e => hb.2 e.symm⟩
  · rintro ⟨h1, h2⟩
    obtain ⟨l, hl, hl2⟩ := h.some h1
    exact ⟨g.mark, List.mem_map.2 ⟨l, hl, by simp [hl2]⟩, by simp [h1]; exact fun e => h2 e.symm⟩
theorem Twin.all {g : Gt} {r : Rg} (h : Twin g r) {n : Nat} (hn : n < g.lanes.length) {m : Int} (hm : 1 ≤ m) (hgm : g.mark = 0 ∨ m = g.mark) (t : Int) :
    (g.lanes.set n (t, true)).any (fun l => !l.2) = !allMarks r.ms n m r.ms.length := by
  have hl : r.ms.length = g.lanes.length := by rw [h.ms, List.length_map]
  have key : allMarks r.ms n m r.ms.length = true ↔ ∀ j (hj : j < g.lanes.length), j = n ∨ g.lanes[j].2 = true := by
    unfold allMarks
    rw [allUpto_iff, hl]
    refine forall_congr' fun j => forall_congr' fun hj => ?_
    rw [Bool.or_eq_true, beq_iff_eq, beq_iff_eq, h.ms, List.getD_eq_getElem?_getD, List.getElem?_map, List.getElem?_eq_getElem hj]
    simp only [Option.map_some, Option.getD_some]
    refine or_congr Iff.rfl ?_
    cases hb : g.lanes[j].2 with
    | false => simp; omega
    | true =>
      have hm0 : g.mark ≠ 0 := fun h0 => by
        have := h.none h0 _ (List.getElem_mem hj)
        rw [hb] at this; cases this
      simp
      omega
  cases ha : allMarks r.ms n m r.ms.length with
  | true =>
    rw [key] at ha
    rw [Bool.not_true, Bool.eq_false_iff]
    intro hx
    obtain ⟨l, hl', hb⟩ := List.any_eq_true.1 hx
    obtain ⟨j, hj, rfl⟩ := List.getElem_of_mem hl'
    rw [List.getElem_set] at hb
    split at hb
    · simp at hb
    · rcases ha j (by simpa using hj) with h1 | h1
      · omega
      · simp [h1] at hb
  | false =>
    rw [Bool.not_false, List.any_eq_true]
    have hx : ¬ ∀ j (hj : j < g.lanes.length), j = n ∨ g.lanes[j].2 = true := fun hx => by rw [key.2 hx] at ha; cases ha
    simp only [Classical.not_forall, not_or] at hx
    obtain ⟨j, hj, h1, h2⟩ := hx
    refine ⟨g.lanes[j], ?_, by simpa using h2⟩
    have h3 : j < (g.lanes.set n (t, true)).length := by simpa using hj
    have := List.getElem_mem h3
    rwa [List.getElem_set_ne (fun e => h1 e.symm)] at this

theorem Twin.take {g : Gt} {r : Rg} (h : Twin g r) (hg : GtOk g) (k : Int) (e : Elem) :
    (takeG g k e).2 = (rTake r k e).2 ∧ Twin (takeG g k e).1 (rTake r k e).1 ∧ GtOk (takeG g k e).1 := by
  obtain ⟨hg1, hg2, hg3⟩ := hg
  unfold takeG rTake
  rw [h.open_]
  by_cases ho : openG g k = true
  · rw [if_pos ho, if_pos ho]
    have ho' := ho
    simp only [openG, Bool.and_eq_true, decide_eq_true_eq] at ho'
    obtain ⟨h0, h1⟩ := ho'
    obtain ⟨n, rfl⟩ := Int.eq_ofNat_of_zero_le h0
    simp only [Int.toNat_natCast] at h1 ⊢
    by_cases hn : n < g.lanes.length
    · rw [List.getElem?_eq_getElem hn] at h1 ⊢
      simp only [Bool.not_eq_true'] at h1
      obtain ⟨l, hl⟩ : ∃ l, l = g.lanes[n] := ⟨_, rfl⟩
      rw [← hl] at h1
      have hlm : l ∈ g.lanes := hl ▸ List.getElem_mem hn
      have hts : r.ts.getD n 0 = l.1 := by rw [h.ts, List.getD_eq_getElem?_getD, List.getElem?_map, List.getElem?_eq_getElem hn, hl]; rfl
      simp only [← hl, hts, h1]
      by_cases k1 : e.kind = 1
      · rw [if_pos k1, if_pos k1]; exact ⟨rfl, h, hg1, hg2, hg3⟩
      rw [if_neg k1, if_neg k1]
      by_cases k2 : e.kind = 2
      · rw [if_pos k2, if_pos k2]
        by_cases ht : e.time ≤ l.1 ∨ 1099511627777 < e.time
        · rw [if_pos ht, if_pos ht]; exact ⟨rfl, h, hg1, hg2, hg3⟩
        rw [if_neg ht, if_neg ht, h.ts, h.told, least_set hn e.time false]
        have hlv := hg3 l hlm
        have hT : TimesOk (g.lanes.set n (e.time, false)) := fun x hx => by
          rcases List.mem_or_eq_of_mem_set hx with hx | rfl
          · exact hg3 x hx
          · exact ⟨by simp only; omega, by simp only; omega⟩
        have hms : (g.lanes.set n (e.time, false)).map (fun l => if l.2 then g.mark else 0) = r.ms := by
          rw [h.ms, List.map_set]
          simp only [Bool.false_eq_true, if_false]
          exact set_same (by simpa using hn) (by simp [← hl, h1])
        have hnone : g.mark = 0 → ∀ x ∈ g.lanes.set n (e.time, false), x.2 = false := fun hm x hx => by
          rcases List.mem_or_eq_of_mem_set hx with hx | rfl
          · exact h.none hm x hx
          · rfl
        have hsome : g.mark ≠ 0 → ∃ x ∈ g.lanes.set n (e.time, false), x.2 = true := fun hm => by
          obtain ⟨x, hx, hb⟩ := h.some hm
          obtain ⟨j, hj, rfl⟩ := List.getElem_of_mem hx
          have h3 : j < (g.lanes.set n (e.time, false)).length := by simpa using hj
          have hm' := List.getElem_mem h3
          rw [List.getElem_set_ne (fun e' => by subst e'; rw [← hl, h1] at hb; cases hb)] at hm'
          exact ⟨_, hm', hb⟩
        by_cases hlt : g.time < leastT (g.lanes.set n (e.time, false))
        · rw [if_pos hlt, if_neg (by omega)]
          exact ⟨rfl, ⟨by rw [List.map_set], hms.symm, rfl, h.mark, hnone, hsome⟩, by simpa using hg1, by simpa using hg2, hT⟩
        · rw [if_neg hlt, if_pos (by omega)]
          exact ⟨rfl, ⟨by rw [List.map_set], hms.symm, rfl, h.mark, hnone, hsome⟩, by simpa using hg1, by simpa using hg2, hT⟩
      rw [if_neg k2, if_neg k2]
      by_cases k3 : e.kind = 3
      · rw [if_pos k3, if_pos k3, h.any]
        simp only [decide_eq_true_eq]
        by_cases hb : e.mark < 1 ∨ g.mark ≠ 0 ∧ e.mark ≠ g.mark
        · rw [if_pos hb, if_pos hb]; exact ⟨rfl, h, hg1, hg2, hg3⟩
        rw [if_neg hb, if_neg hb, h.all (m := e.mark) hn (by omega) (by omega)]
        have hlen : r.ms.length = g.lanes.length := by rw [h.ms, List.length_map]
        have hlv := hg3 l hlm
        have hT : TimesOk (g.lanes.set n (l.1, true)) := fun x hx => by
          rcases List.mem_or_eq_of_mem_set hx with hx | rfl
          · exact hg3 x hx
          · exact hlv
        have hts' : (g.lanes.set n (l.1, true)).map (·.1) = r.ts := by
          rw [h.ts, List.map_set]
          simp only
          exact set_same (by simpa using hn) (by simp [← hl])
        cases ha : allMarks r.ms n e.mark r.ms.length with
        | true =>
          rw [if_neg (by simp), if_pos rfl]
          refine ⟨rfl, ⟨?_, ?_, h.told, Int.le_refl _, ?_, fun hx => absurd rfl hx⟩, by simpa using hg1, by simpa using hg2, ?_⟩
          · simp only [List.map_map]; exact hts'.symm
          · simp only [List.map_map]
            rw [hlen]
            refine List.ext_getElem (by simp) fun i h1 h2 => by rw [List.getElem_map, List.getElem_replicate]; rfl
          · intro _ x hx
            obtain ⟨y, hy, rfl⟩ := List.mem_map.1 hx
            rfl
          · intro x hx
            obtain ⟨y, hy, rfl⟩ := List.mem_map.1 hx
            exact hT y hy
        | false =>
          rw [if_pos (by simp), if_neg (by simp)]
          refine ⟨rfl, ⟨hts'.symm, ?_, h.told, by simp only; omega, fun hx => absurd hx (by simp only; omega), fun _ => ?_⟩, by simpa using hg1, by simpa using hg2, hT⟩
          · rw [List.map_set, h.ms]
            simp only [if_true]
            congr 1
            refine List.map_congr_left fun x hx => ?_
            cases hx2 : x.2 with
            | false => rfl
            | true =>
              have hm0 : g.mark ≠ 0 := fun h0 => by
                have := h.none h0 _ hx
                rw [hx2] at this; cases this
              simp only [if_true]
              omega
          · have h3 : n < (g.lanes.set n (l.1, true)).length := by simpa using hn
            have := List.getElem_mem h3
            rw [List.getElem_set_self] at this
            exact ⟨_, this, rfl⟩
      rw [if_neg k3, if_neg k3]; exact ⟨rfl, h, hg1, hg2, hg3⟩
    · rw [List.getElem?_eq_none (by omega)] at h1; cases h1
  · rw [if_neg ho, if_neg ho]; exact ⟨rfl, h, hg1, hg2, hg3⟩
end Go.Proofs.YthfgjmdmcoogpaaDoor
