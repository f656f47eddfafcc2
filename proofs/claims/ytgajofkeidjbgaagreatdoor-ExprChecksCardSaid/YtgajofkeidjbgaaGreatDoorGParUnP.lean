/-
  PROVED HERE: in plain Lean: what an expression begins with, step by step; rows of tokens as cells.
  PROVED HERE: in plain Lean: the document's parser, step by step.
-/
import Derived.Test.YtgajofkeidjbgaaGreatDoorGParUn2
namespace Go.Proofs.YtgajofkeidjbgaaGreatDoor
set_option linter.unusedSimpArgs false
set_option linter.unusedVariables false
open Go Go.RowKit

theorem isW_k {t : Tok} {x : List UInt8} (h : t.k ≠ 111) (h' : t.k ≠ 110) : isW t x = false := by
  unfold isW
  rw [Bool.and_eq_false_iff]
  right
  simp [h, h']
theorem par_lit {d : Nat} {t : Tok} {r : List Tok} {v : Val} (hk : t.k = 48 ∨ t.k = 39) (hr : readP t.t = some v) : Par true .un d (t :: r) (.ok (.lit v, r)) := by
  have hw : ∀ x, isW t x = false := fun x => by rcases hk with h | h <;> exact isW_k (by rw [h]; decide) (by rw [h]; decide)
  have h1 : ¬ isW (hdT (t :: r)) minusW = true := by show ¬ isW t minusW = true; rw [hw]; simp
  have h2 : ¬ isW (hdT (t :: r)) openW = true := by show ¬ isW t openW = true; rw [hw]; simp
  have h3 : (hdT (t :: r)).k = 48 ∨ (hdT (t :: r)).k = 39 := hk
  have h4 : readP (hdT (t :: r)).t = some v := hr
  exact ⟨1, by unfold parseX; rw [if_neg h1, if_neg h2, if_pos h3, h4]; rfl⟩
theorem par_lit_bad {d : Nat} {t : Tok} {r : List Tok} (hk : t.k = 48 ∨ t.k = 39) (hr : readP t.t = none) : Par true .un d (t :: r) (.error (1, t.p)) := by
  have hw : ∀ x, isW t x = false := fun x => by rcases hk with h | h <;> exact isW_k (by rw [h]; decide) (by rw [h]; decide)
  have h1 : ¬ isW (hdT (t :: r)) minusW = true := by show ¬ isW t minusW = true; rw [hw]; simp
  have h2 : ¬ isW (hdT (t :: r)) openW = true := by show ¬ isW t openW = true; rw [hw]; simp
  have h3 : (hdT (t :: r)).k = 48 ∨ (hdT (t :: r)).k = 39 := hk
  have h4 : readP (hdT (t :: r)).t = none := hr
  exact ⟨1, by unfold parseX; rw [if_neg h1, if_neg h2, if_pos h3, h4]; rfl⟩
theorem isW_t {t : Tok} {x : List UInt8} (h : t.t ≠ x) : isW t x = false := by
  unfold isW
  rw [Bool.and_eq_false_iff]
  left
  simp [h]
theorem par_bool {d : Nat} {t : Tok} {r : List Tok} (hk : ¬ (t.k = 48 ∨ t.k = 39)) (ht : t.t = trueW ∨ t.t = falseW) : Par true .un d (t :: r) (.ok (.lit ⟨2, if t.t = trueW then 1 else 0, ⟨#[]⟩⟩, r)) := by
  have hw : ∀ x, x ≠ trueW → x ≠ falseW → isW t x = false := fun x g1 g2 => isW_t (ht.elim (fun h => by rw [h]; exact g1.symm) (fun h => by rw [h]; exact g2.symm))
  have h1 : ¬ isW (hdT (t :: r)) minusW = true := by show ¬ isW t minusW = true; rw [hw _ (by decide) (by decide)]; simp
  have h2 : ¬ isW (hdT (t :: r)) openW = true := by show ¬ isW t openW = true; rw [hw _ (by decide) (by decide)]; simp
  have h3 : ¬ ((hdT (t :: r)).k = 48 ∨ (hdT (t :: r)).k = 39) := hk
  have h4 : (hdT (t :: r)).t = trueW ∨ (hdT (t :: r)).t = falseW := ht
  exact ⟨1, by unfold parseX; rw [if_neg h1, if_neg h2, if_neg h3, if_pos h4]; rfl⟩
/-- a token that is a name. -/
def IsName (t : Tok) : Prop := t.k = 110 ∧ t.t ∉ wordsW
theorem IsName.facts {t : Tok} (hn : IsName t) (ho : TokOk t) : isW t minusW = false ∧ isW t openW = false ∧ ¬ (t.k = 48 ∨ t.k = 39) ∧ ¬ (t.t = trueW ∨ t.t = falseW) := by
  have ht : ∀ x ∈ signsW, isW t x = false := fun x hx => by
    rw [tok_sign ho hx, hn.1]
    simp
  refine ⟨ht _ (by decide), ht _ (by decide), ?_, ?_⟩
  · rw [hn.1]; decide
  · rintro (h | h)
    · exact hn.2 (by rw [h]; decide)
    · exact hn.2 (by rw [h]; decide)
theorem par_long {d : Nat} {t : Tok} {r : List Tok} (hn : IsName t) (ho : TokOk t) (hl : 12 < t.t.length) : Par true .un d (t :: r) (.error (4, t.p)) := by
  obtain ⟨f1, f2, f3, f4⟩ := hn.facts ho
  have h1 : ¬ isW (hdT (t :: r)) minusW = true := by show ¬ isW t minusW = true; rw [f1]; simp
  have h2 : ¬ isW (hdT (t :: r)) openW = true := by show ¬ isW t openW = true; rw [f2]; simp
  have h3 : ¬ ((hdT (t :: r)).k = 48 ∨ (hdT (t :: r)).k = 39) := f3
  have h4 : ¬ ((hdT (t :: r)).t = trueW ∨ (hdT (t :: r)).t = falseW) := f4
  have h5 : (hdT (t :: r)).k = 110 ∧ (hdT (t :: r)).t ∉ wordsW := hn
  have h6 : 12 < (hdT (t :: r)).t.length := hl
  exact ⟨1, by unfold parseX; rw [if_neg h1, if_neg h2, if_neg h3, if_neg h4, if_pos h5, if_pos h6]; rfl⟩
theorem par_name {d : Nat} {t : Tok} {r : List Tok} (hn : IsName t) (ho : TokOk t) (hl : ¬ 12 < t.t.length) (hq : isW (hdT r) openW = false) : Par true .un d (t :: r) (.ok (.name t.t t.p, r)) := by
  obtain ⟨f1, f2, f3, f4⟩ := hn.facts ho
  have h1 : ¬ isW (hdT (t :: r)) minusW = true := by show ¬ isW t minusW = true; rw [f1]; simp
  have h2 : ¬ isW (hdT (t :: r)) openW = true := by show ¬ isW t openW = true; rw [f2]; simp
  have h3 : ¬ ((hdT (t :: r)).k = 48 ∨ (hdT (t :: r)).k = 39) := f3
  have h4 : ¬ ((hdT (t :: r)).t = trueW ∨ (hdT (t :: r)).t = falseW) := f4
  have h5 : (hdT (t :: r)).k = 110 ∧ (hdT (t :: r)).t ∉ wordsW := hn
  have h6 : ¬ 12 < (hdT (t :: r)).t.length := hl
  have h7 : ¬ isW (hdT (t :: r).tail) openW = true := by show ¬ isW (hdT r) openW = true; rw [hq]; simp
  exact ⟨1, by unfold parseX; rw [if_neg h1, if_neg h2, if_neg h3, if_neg h4, if_pos h5, if_neg h6, if_neg h7]; rfl⟩
theorem par_callq {d : Nat} {t u : Tok} {r : List Tok} {s : Res} (hn : IsName t) (ho : TokOk t) (hl : ¬ 12 < t.t.length) (hq : isW u openW = true) (hs : if 12 < d + 1 then s = .error (4, u.p) else Par true (.args t.t t.p []) (d + 1) r s) : Par true .un d (t :: u :: r) s := by
  obtain ⟨f1, f2, f3, f4⟩ := hn.facts ho
  have h1 : ¬ isW (hdT (t :: u :: r)) minusW = true := by show ¬ isW t minusW = true; rw [f1]; simp
  have h2 : ¬ isW (hdT (t :: u :: r)) openW = true := by show ¬ isW t openW = true; rw [f2]; simp
  have h3 : ¬ ((hdT (t :: u :: r)).k = 48 ∨ (hdT (t :: u :: r)).k = 39) := f3
  have h4 : ¬ ((hdT (t :: u :: r)).t = trueW ∨ (hdT (t :: u :: r)).t = falseW) := f4
  have h5 : (hdT (t :: u :: r)).k = 110 ∧ (hdT (t :: u :: r)).t ∉ wordsW := hn
  have h6 : ¬ 12 < (hdT (t :: u :: r)).t.length := hl
  have h7 : isW (hdT (t :: u :: r).tail) openW = true := hq
  by_cases hd : 12 < d + 1
  · rw [if_pos hd] at hs
    subst hs
    exact ⟨1, by unfold parseX; rw [if_neg h1, if_neg h2, if_neg h3, if_neg h4, if_pos h5, if_neg h6, if_pos h7, if_pos hd]; rfl⟩
  · rw [if_neg hd] at hs
    obtain ⟨n, hn⟩ := hs
    exact ⟨n + 1, by unfold parseX; rw [if_neg h1, if_neg h2, if_neg h3, if_neg h4, if_pos h5, if_neg h6, if_pos h7, if_neg hd]; exact hn⟩
theorem par_brackets {d : Nat} {t : Tok} {r : List Tok} {s : Res} (ht : isW t openW = true) (hs : if 12 < d + 1 then s = .error (4, t.p) else ∃ s', Par true (.bin 0) (d + 1) r s' ∧ s = closeR s') : Par true .un d (t :: r) s := by
  have h1 : ¬ isW (hdT (t :: r)) minusW = true := by
    show ¬ isW t minusW = true
    intro h
    unfold isW at h ht
    simp only [Bool.and_eq_true, beq_iff_eq] at h ht
    rw [ht.1] at h
    exact absurd h.1 (by decide)
  have h2 : isW (hdT (t :: r)) openW = true := ht
  by_cases hd : 12 < d + 1
  · rw [if_pos hd] at hs
    subst hs
    exact ⟨1, by unfold parseX; rw [if_neg h1, if_pos h2, if_pos hd]; rfl⟩
  · rw [if_neg hd] at hs
    obtain ⟨s', ⟨n, hn⟩, rfl⟩ := hs
    refine ⟨n + 1, ?_⟩
    unfold parseX
    rw [if_neg h1, if_pos h2, if_neg hd, show (t :: r).tail = r from rfl, show topJ true = .bin 0 from rfl, hn]
    cases s' with
    | error e => rfl
    | ok x =>
      show (if isW (hdT x.2) closeW = true then PR.ok (x.1, x.2.tail) else PR.err 1 (hdT x.2).p) = some (closeR (.ok x))
      unfold closeR
      simp only
      split <;> rfl
theorem par_none {d : Nat} {t : Tok} {r : List Tok} (h1 : isW t minusW = false) (h2 : isW t openW = false) (h3 : ¬ (t.k = 48 ∨ t.k = 39)) (h4 : ¬ (t.t = trueW ∨ t.t = falseW)) (h5 : ¬ IsName t) : Par true .un d (t :: r) (.error (1, t.p)) := by
  have g1 : ¬ isW (hdT (t :: r)) minusW = true := by show ¬ isW t minusW = true; rw [h1]; simp
  have g2 : ¬ isW (hdT (t :: r)) openW = true := by show ¬ isW t openW = true; rw [h2]; simp
  have g3 : ¬ ((hdT (t :: r)).k = 48 ∨ (hdT (t :: r)).k = 39) := h3
  have g4 : ¬ ((hdT (t :: r)).t = trueW ∨ (hdT (t :: r)).t = falseW) := h4
  have g5 : ¬ ((hdT (t :: r)).k = 110 ∧ (hdT (t :: r)).t ∉ wordsW) := h5
  exact ⟨1, by unfold parseX; rw [if_neg g1, if_neg g2, if_neg g3, if_neg g4, if_neg g5]; rfl⟩
theorem tok_open {t : Tok} (h : TokOk t) : isW t openW = decide (t.t = openW) := by
  by_cases ht : t.t = openW
  · have hk : t.k = 111 := by
      rcases h with ⟨_, h2⟩ | ⟨_, c, r, h2, h3⟩ | ⟨_, c, r, h2, h3⟩ | ⟨_, r, h2⟩ | ⟨h1, _⟩
      · rw [ht] at h2; cases h2
      · rw [ht] at h2; cases h2; exact absurd h3 (by decide)
      · rw [ht] at h2; cases h2; exact absurd h3 (by decide)
      · rw [ht] at h2; cases h2
      · exact h1
    unfold isW
    simp [ht, hk]
  · rw [isW_t ht]; simp [ht]
/-! rows of tokens -/
theorem tokCells_split : ∀ (l : List Tok) (j : Nat) (u : Value), (tokCells l)[j]? = some u → ∃ i, ∃ h : i < l.length, ∃ c, c < 3 ∧ j = i * 3 + c ∧ (l[i].cells)[c]? = some u
  | [], j, u, h => by simp [tokCells] at h
  | t :: l, j, u, h => by
    have e : tokCells (t :: l) = t.cells ++ tokCells l := by simp [tokCells]
    rw [e] at h
    by_cases hj : j < 3
    · refine ⟨0, by simp, j, hj, by omega, ?_⟩
      rw [List.getElem?_append_left (by show j < 3; exact hj)] at h
      exact h
    · rw [List.getElem?_append_right (by show 3 ≤ j; omega)] at h
      obtain ⟨i, hi, c, hc, hjc, hu⟩ := tokCells_split l (j - 3) u h
      exact ⟨i + 1, by simp only [List.length_cons]; omega, c, hc, by omega, hu⟩
theorem tokCells_at : ∀ (l : List Tok) (i : Nat) (h : i < l.length) (c : Nat), c < 3 → (tokCells l)[i * 3 + c]? = (l[i].cells)[c]?
  | [], i, h, _, _ => absurd h (by simp)
  | t :: l, i, h, c, hc => by
    have e : tokCells (t :: l) = t.cells ++ tokCells l := by simp [tokCells]
    rw [e]
    cases i with
    | zero =>
      rw [List.getElem?_append_left (by show 0 * 3 + c < 3; omega)]
      simp
    | succ i =>
      rw [List.getElem?_append_right (by show 3 ≤ (i + 1) * 3 + c; omega)]
      have : (i + 1) * 3 + c - (t.cells).length = i * 3 + c := by show (i + 1) * 3 + c - 3 = _; omega
      rw [this, tokCells_at l i (by simpa using h) c hc]
      simp
theorem tokCells_len (l : List Tok) : (tokCells l).length = l.length * 3 := by
  induction l with
  | nil => rfl
  | cons t l ih =>
    have e : tokCells (t :: l) = t.cells ++ tokCells l := by simp [tokCells]
    rw [e, List.length_append, ih]
    show 3 + l.length * 3 = (l.length + 1) * 3
    omega
theorem toks_of_own {w : World} {B P : Nat} {v : Value} {l : List Tok} (h : w.ownsRow B 102 3 v l.length (tokCells l)) (hP : ∀ g, v.ownBlock = some g → g ≠ P) : ToksOf P w v l := by
  rcases h.2 with ⟨hv, h0⟩ | ⟨g, cap, cur, hv, hb, hg, hnc, hcm, hcs, htake⟩
  · have hl : l = [] := List.eq_nil_of_length_eq_zero h0
    subst hl
    refine ⟨⟨none, 0, hv, Nat.le_refl _, by unfold maxLen; omega, fun _ => rfl, fun i hi => absurd hi (by simp)⟩, fun g o n c e => ?_⟩
    rw [hv] at e; cases e
  · have hne := hP g (by rw [hv]; rfl)
    have hc := h.cells (g := g) (by rw [hv]; rfl)
    refine ⟨⟨some ⟨g, 0, none⟩, cap, hv, hnc, hcm, (fun e => by cases e), fun i hi => ⟨g, 0, rfl, hne, ?_⟩⟩, fun g' o n c e => ?_⟩
    · have at_ : ∀ c u, c < 3 → (l[i].cells)[c]? = some u → w.cell? ⟨g, 0 + i * 3 + c, none⟩ = some u := fun c u h3 hu => by
        have := hc (i * 3 + c) u (by rw [tokCells_at l i hi c h3]; exact hu)
        rw [add_none rfl] at this
        rw [Nat.zero_add]
        simpa using this
      exact ⟨at_ 0 _ (by omega) rfl, at_ 1 _ (by omega) rfl, at_ 2 _ (by omega) rfl⟩
    · rw [hv] at e
      simp only [Value.slice.injEq, Option.some.injEq, Addr.mk.injEq] at e
      obtain ⟨⟨rfl, -, -⟩, -, -⟩ := e
      exact ⟨hne, _, _, hg⟩
theorem toks_cells {P : Nat} {w : World} {g o n c : Nat} {l : List Tok} (h : ToksOf P w (.slice (some ⟨g, o, none⟩) n c) l) : n = l.length ∧ l.length ≤ c ∧ ∀ j u, (tokCells l)[j]? = some u → w.cell? ((⟨g, o, none⟩ : Addr).add j) = some u := by
  obtain ⟨⟨a, c', hv, hl, hc, hn, he⟩, -⟩ := h
  simp only [Value.slice.injEq] at hv
  obtain ⟨rfl, rfl, rfl⟩ := hv
  refine ⟨rfl, hl, fun j u hj => ?_⟩
  obtain ⟨i, hi, k, hk, rfl, hu⟩ := tokCells_split l j u hj
  obtain ⟨b, o', hb, -, h0, h1, h2⟩ := he i hi
  simp only [Option.some.injEq, Addr.mk.injEq] at hb
  obtain ⟨rfl, rfl, -⟩ := hb
  rw [add_none rfl]
  match k, hk with
  | 0, _ => have : some _ = some u := hu; cases this; simpa [Nat.add_assoc] using h0
  | 1, _ => have : some _ = some u := hu; cases this; simpa [Nat.add_assoc] using h1
  | 2, _ => have : some _ = some u := hu; cases this; simpa [Nat.add_assoc] using h2
end Go.Proofs.YtgajofkeidjbgaaGreatDoor
namespace Go.Proofs.YtgajofkeidjbgaaGreatDoor
set_option linter.unusedSimpArgs false
set_option linter.unusedVariables false
open Go Go.RowKit

theorem rpar_lit {d : Nat} {t : Tok} {r : List Tok} {v : Val} (hk : t.k = 48 ∨ t.k = 39) (hr : readP t.t = some v) : Par false .un d (t :: r) (.ok (.lit v, r)) := by
  have hw : ∀ x, isW t x = false := fun x => by rcases hk with h | h <;> exact isW_k (by rw [h]; decide) (by rw [h]; decide)
  have h1 : ¬ isW (hdT (t :: r)) minusW = true := by show ¬ isW t minusW = true; rw [hw]; simp
  have h2 : ¬ isW (hdT (t :: r)) openW = true := by show ¬ isW t openW = true; rw [hw]; simp
  have h3 : (hdT (t :: r)).k = 48 ∨ (hdT (t :: r)).k = 39 := hk
  have h4 : readP (hdT (t :: r)).t = some v := hr
  exact ⟨1, by unfold parseX; rw [if_neg h1, if_neg h2, if_pos h3, h4]; rfl⟩
theorem rpar_lit_bad {d : Nat} {t : Tok} {r : List Tok} (hk : t.k = 48 ∨ t.k = 39) (hr : readP t.t = none) : Par false .un d (t :: r) (.error (1, t.p)) := by
  have hw : ∀ x, isW t x = false := fun x => by rcases hk with h | h <;> exact isW_k (by rw [h]; decide) (by rw [h]; decide)
  have h1 : ¬ isW (hdT (t :: r)) minusW = true := by show ¬ isW t minusW = true; rw [hw]; simp
  have h2 : ¬ isW (hdT (t :: r)) openW = true := by show ¬ isW t openW = true; rw [hw]; simp
  have h3 : (hdT (t :: r)).k = 48 ∨ (hdT (t :: r)).k = 39 := hk
  have h4 : readP (hdT (t :: r)).t = none := hr
  exact ⟨1, by unfold parseX; rw [if_neg h1, if_neg h2, if_pos h3, h4]; rfl⟩
theorem rpar_bool {d : Nat} {t : Tok} {r : List Tok} (hk : ¬ (t.k = 48 ∨ t.k = 39)) (ht : t.t = trueW ∨ t.t = falseW) : Par false .un d (t :: r) (.ok (.lit ⟨2, if t.t = trueW then 1 else 0, ⟨#[]⟩⟩, r)) := by
  have hw : ∀ x, x ≠ trueW → x ≠ falseW → isW t x = false := fun x g1 g2 => isW_t (ht.elim (fun h => by rw [h]; exact g1.symm) (fun h => by rw [h]; exact g2.symm))
  have h1 : ¬ isW (hdT (t :: r)) minusW = true := by show ¬ isW t minusW = true; rw [hw _ (by decide) (by decide)]; simp
  have h2 : ¬ isW (hdT (t :: r)) openW = true := by show ¬ isW t openW = true; rw [hw _ (by decide) (by decide)]; simp
  have h3 : ¬ ((hdT (t :: r)).k = 48 ∨ (hdT (t :: r)).k = 39) := hk
  have h4 : (hdT (t :: r)).t = trueW ∨ (hdT (t :: r)).t = falseW := ht
  exact ⟨1, by unfold parseX; rw [if_neg h1, if_neg h2, if_neg h3, if_pos h4]; rfl⟩
theorem rpar_long {d : Nat} {t : Tok} {r : List Tok} (hn : IsName t) (ho : TokOk t) (hl : 12 < t.t.length) : Par false .un d (t :: r) (.error (4, t.p)) := by
  obtain ⟨f1, f2, f3, f4⟩ := hn.facts ho
  have h1 : ¬ isW (hdT (t :: r)) minusW = true := by show ¬ isW t minusW = true; rw [f1]; simp
  have h2 : ¬ isW (hdT (t :: r)) openW = true := by show ¬ isW t openW = true; rw [f2]; simp
  have h3 : ¬ ((hdT (t :: r)).k = 48 ∨ (hdT (t :: r)).k = 39) := f3
  have h4 : ¬ ((hdT (t :: r)).t = trueW ∨ (hdT (t :: r)).t = falseW) := f4
  have h5 : (hdT (t :: r)).k = 110 ∧ (hdT (t :: r)).t ∉ wordsW := hn
  have h6 : 12 < (hdT (t :: r)).t.length := hl
  exact ⟨1, by unfold parseX; rw [if_neg h1, if_neg h2, if_neg h3, if_neg h4, if_pos h5, if_pos h6]; rfl⟩
theorem rpar_name {d : Nat} {t : Tok} {r : List Tok} (hn : IsName t) (ho : TokOk t) (hl : ¬ 12 < t.t.length) (hq : isW (hdT r) openW = false) : Par false .un d (t :: r) (.ok (.name t.t t.p, r)) := by
  obtain ⟨f1, f2, f3, f4⟩ := hn.facts ho
  have h1 : ¬ isW (hdT (t :: r)) minusW = true := by show ¬ isW t minusW = true; rw [f1]; simp
  have h2 : ¬ isW (hdT (t :: r)) openW = true := by show ¬ isW t openW = true; rw [f2]; simp
  have h3 : ¬ ((hdT (t :: r)).k = 48 ∨ (hdT (t :: r)).k = 39) := f3
  have h4 : ¬ ((hdT (t :: r)).t = trueW ∨ (hdT (t :: r)).t = falseW) := f4
  have h5 : (hdT (t :: r)).k = 110 ∧ (hdT (t :: r)).t ∉ wordsW := hn
  have h6 : ¬ 12 < (hdT (t :: r)).t.length := hl
  have h7 : ¬ isW (hdT (t :: r).tail) openW = true := by show ¬ isW (hdT r) openW = true; rw [hq]; simp
  exact ⟨1, by unfold parseX; rw [if_neg h1, if_neg h2, if_neg h3, if_neg h4, if_pos h5, if_neg h6, if_neg h7]; rfl⟩
theorem rpar_callq {d : Nat} {t u : Tok} {r : List Tok} {s : Res} (hn : IsName t) (ho : TokOk t) (hl : ¬ 12 < t.t.length) (hq : isW u openW = true) (hs : if 12 < d + 1 then s = .error (4, u.p) else Par false (.args t.t t.p []) (d + 1) r s) : Par false .un d (t :: u :: r) s := by
  obtain ⟨f1, f2, f3, f4⟩ := hn.facts ho
  have h1 : ¬ isW (hdT (t :: u :: r)) minusW = true := by show ¬ isW t minusW = true; rw [f1]; simp
  have h2 : ¬ isW (hdT (t :: u :: r)) openW = true := by show ¬ isW t openW = true; rw [f2]; simp
  have h3 : ¬ ((hdT (t :: u :: r)).k = 48 ∨ (hdT (t :: u :: r)).k = 39) := f3
  have h4 : ¬ ((hdT (t :: u :: r)).t = trueW ∨ (hdT (t :: u :: r)).t = falseW) := f4
  have h5 : (hdT (t :: u :: r)).k = 110 ∧ (hdT (t :: u :: r)).t ∉ wordsW := hn
  have h6 : ¬ 12 < (hdT (t :: u :: r)).t.length := hl
  have h7 : isW (hdT (t :: u :: r).tail) openW = true := hq
  by_cases hd : 12 < d + 1
  · rw [if_pos hd] at hs
    subst hs
    exact ⟨1, by unfold parseX; rw [if_neg h1, if_neg h2, if_neg h3, if_neg h4, if_pos h5, if_neg h6, if_pos h7, if_pos hd]; rfl⟩
  · rw [if_neg hd] at hs
    obtain ⟨n, hn⟩ := hs
    exact ⟨n + 1, by unfold parseX; rw [if_neg h1, if_neg h2, if_neg h3, if_neg h4, if_pos h5, if_neg h6, if_pos h7, if_neg hd]; exact hn⟩
theorem rpar_brackets {d : Nat} {t : Tok} {r : List Tok} {s : Res} (ht : isW t openW = true) (hs : if 12 < d + 1 then s = .error (4, t.p) else ∃ s', Par false (.climb 0) (d + 1) r s' ∧ s = closeR s') : Par false .un d (t :: r) s := by
  have h1 : ¬ isW (hdT (t :: r)) minusW = true := by
    show ¬ isW t minusW = true
    intro h
    unfold isW at h ht
    simp only [Bool.and_eq_true, beq_iff_eq] at h ht
    rw [ht.1] at h
    exact absurd h.1 (by decide)
  have h2 : isW (hdT (t :: r)) openW = true := ht
  by_cases hd : 12 < d + 1
  · rw [if_pos hd] at hs
    subst hs
    exact ⟨1, by unfold parseX; rw [if_neg h1, if_pos h2, if_pos hd]; rfl⟩
  · rw [if_neg hd] at hs
    obtain ⟨s', ⟨n, hn⟩, rfl⟩ := hs
    refine ⟨n + 1, ?_⟩
    unfold parseX
    rw [if_neg h1, if_pos h2, if_neg hd, show (t :: r).tail = r from rfl, show topJ false = .climb 0 from rfl, hn]
    cases s' with
    | error e => rfl
    | ok x =>
      show (if isW (hdT x.2) closeW = true then PR.ok (x.1, x.2.tail) else PR.err 1 (hdT x.2).p) = some (closeR (.ok x))
      unfold closeR
      simp only
      split <;> rfl
theorem rpar_none {d : Nat} {t : Tok} {r : List Tok} (h1 : isW t minusW = false) (h2 : isW t openW = false) (h3 : ¬ (t.k = 48 ∨ t.k = 39)) (h4 : ¬ (t.t = trueW ∨ t.t = falseW)) (h5 : ¬ IsName t) : Par false .un d (t :: r) (.error (1, t.p)) := by
  have g1 : ¬ isW (hdT (t :: r)) minusW = true := by show ¬ isW t minusW = true; rw [h1]; simp
  have g2 : ¬ isW (hdT (t :: r)) openW = true := by show ¬ isW t openW = true; rw [h2]; simp
  have g3 : ¬ ((hdT (t :: r)).k = 48 ∨ (hdT (t :: r)).k = 39) := h3
  have g4 : ¬ ((hdT (t :: r)).t = trueW ∨ (hdT (t :: r)).t = falseW) := h4
  have g5 : ¬ ((hdT (t :: r)).k = 110 ∧ (hdT (t :: r)).t ∉ wordsW) := h5
  exact ⟨1, by unfold parseX; rw [if_neg g1, if_neg g2, if_neg g3, if_neg g4, if_neg g5]; rfl⟩
theorem rpar_minus {d : Nat} {t : Tok} {r : List Tok} (h : isW t minusW = true) {s : Res} (hs : if 12 < d + 1 then s = .error (4, t.p) else ∃ s', Par false .un (d + 1) r s' ∧ s = match s' with
      | .error f => .error f
      | .ok x => .ok (.un true t.p x.1, x.2)) : Par false .un d (t :: r) s := by
  have h' : isW (hdT (t :: r)) minusW = true := h
  by_cases hd : 12 < d + 1
  · rw [if_pos hd] at hs
    subst hs
    exact ⟨1, by unfold parseX; rw [if_pos h', if_pos hd]; rfl⟩
  · rw [if_neg hd] at hs
    obtain ⟨s', ⟨n, hn⟩, rfl⟩ := hs
    refine ⟨n + 1, ?_⟩
    unfold parseX
    rw [if_pos h', if_neg hd, show (t :: r).tail = r from rfl, hn]
    cases s' <;> rfl
theorem rpar_args_close {f : List UInt8} {p d : Nat} {acc : List Ex} {t : Tok} {r : List Tok} (h : isW t closeW = true) : Par false (.args f p acc) d (t :: r) (.ok (.call f p acc, r)) := by
  have h' : isW (hdT (t :: r)) closeW = true := h
  exact ⟨1, by unfold parseX; rw [if_pos h']; rfl⟩
theorem rpar_args_bad {f : List UInt8} {p d : Nat} {acc : List Ex} {t : Tok} {r : List Tok} (h : isW t closeW = false) (ha : acc ≠ []) (hc : isW t commaW = false) : Par false (.args f p acc) d (t :: r) (.error (1, t.p)) := by
  have h' : ¬ isW (hdT (t :: r)) closeW = true := by show ¬ isW t closeW = true; rw [h]; simp
  have h2 : acc ≠ [] ∧ ¬ isW (hdT (t :: r)) commaW = true := ⟨ha, by show ¬ isW t commaW = true; rw [hc]; simp⟩
  exact ⟨1, by unfold parseX; rw [if_neg h', if_pos h2]; rfl⟩
theorem rpar_args_err {f : List UInt8} {p d : Nat} {acc : List Ex} {t : Tok} {r : List Tok} {e : Fault} (h : isW t closeW = false) (hc : acc = [] ∨ isW t commaW = true) (hb : Par false (.climb 0) d (if acc = [] then t :: r else r) (.error e)) : Par false (.args f p acc) d (t :: r) (.error e) := by
  have h' : ¬ isW (hdT (t :: r)) closeW = true := by show ¬ isW t closeW = true; rw [h]; simp
  have h2 : ¬ (acc ≠ [] ∧ ¬ isW (hdT (t :: r)) commaW = true) := fun hx => by
    rcases hc with hc | hc
    · exact hx.1 hc
    · exact hx.2 hc
  obtain ⟨n, hn⟩ := hb
  exact ⟨n + 1, by unfold parseX; rw [if_neg h', if_neg h2, show topJ false = .climb 0 from rfl, show (t :: r).tail = r from rfl, hn]; rfl⟩
theorem rpar_args_go {f : List UInt8} {p d : Nat} {acc : List Ex} {t : Tok} {r l : List Tok} {x : Ex} {s : Res} (h : isW t closeW = false) (hc : acc = [] ∨ isW t commaW = true) (hb : Par false (.climb 0) d (if acc = [] then t :: r else r) (.ok (x, l)))
    (hs : Par false (.args f p (acc ++ [x])) d l s) : Par false (.args f p acc) d (t :: r) s := by
  have h' : ¬ isW (hdT (t :: r)) closeW = true := by show ¬ isW t closeW = true; rw [h]; simp
  have h2 : ¬ (acc ≠ [] ∧ ¬ isW (hdT (t :: r)) commaW = true) := fun hx => by
    rcases hc with hc | hc
    · exact hx.1 hc
    · exact hx.2 hc
  obtain ⟨n, e1, e2⟩ := hb.both hs
  exact ⟨n + 1, by unfold parseX; rw [if_neg h', if_neg h2, show topJ false = .climb 0 from rfl, show (t :: r).tail = r from rfl, e1]; exact e2⟩
/-! the climb -/
theorem rpar_climb_un {q d : Nat} {l : List Tok} {s : Res} (hn : ¬ (isW (hdT l) notW = true ∧ q ≤ 3)) (h : ∃ s', Par false .un d l s' ∧ match s' with
      | .error f => s = .error f
      | .ok x => Par false (.cloop q 9 false x.1) d x.2 s) : Par false (.climb q) d l s := by
  obtain ⟨s', h1, h2⟩ := h
  cases s' with
  | error f =>
    simp only at h2
    subst h2
    obtain ⟨n, hn'⟩ := h1
    exact ⟨n + 1, by unfold parseX; rw [if_neg hn, hn']; rfl⟩
  | ok x =>
    obtain ⟨n, e1, e2⟩ := h1.both h2
    exact ⟨n + 1, by unfold parseX; rw [if_neg hn, e1]; exact e2⟩
theorem rpar_climb_not {q d : Nat} {t : Tok} {r : List Tok} {s : Res} (hn : isW t notW = true ∧ q ≤ 3) (h : if 12 < d + 1 then s = .error (4, t.p) else ∃ s', Par false (.climb 3) (d + 1) r s' ∧ match s' with
      | .error f => s = .error f
      | .ok x => Par false (.cloop q 9 true (.un false t.p x.1)) d x.2 s) : Par false (.climb q) d (t :: r) s := by
  have hn' : isW (hdT (t :: r)) notW = true ∧ q ≤ 3 := hn
  by_cases hd : 12 < d + 1
  · rw [if_pos hd] at h
    subst h
    exact ⟨1, by unfold parseX; rw [if_pos hn', if_pos hd]; rfl⟩
  · rw [if_neg hd] at h
    obtain ⟨s', h1, h2⟩ := h
    cases s' with
    | error f =>
      simp only at h2
      subst h2
      obtain ⟨n, e1⟩ := h1
      exact ⟨n + 1, by unfold parseX; rw [if_pos hn', if_neg hd, show (t :: r).tail = r from rfl, e1]; rfl⟩
    | ok x =>
      obtain ⟨n, e1, e2⟩ := h1.both h2
      exact ⟨n + 1, by unfold parseX; rw [if_pos hn', if_neg hd, show (t :: r).tail = r from rfl, e1]; exact e2⟩
end Go.Proofs.YtgajofkeidjbgaaGreatDoor
