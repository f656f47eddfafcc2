/-
  PROVED HERE: in plain Lean: what an expression begins with, step by step; rows of tokens as cells.
  PROVED HERE: the program's parser in plain Lean, step by step.
  PROVED HERE: (a definition) an upper bound of what is written of a tree.
  PROVED HERE: in plain Lean: how much can be written of a text's expression.
-/
import Derived.Test.YtgajofkeidjbgaaGreatDoorGParNest
import Derived.Test.YtgajofkeidjbgaaGreatDoorGExprPlain
import Derived.Test.YtgajofkeidjbgaaGreatDoorGTabExpr
import Derived.Test.YtgajofkeidjbgaaGreatDoorGParText
namespace Go.Proofs.YtgajofkeidjbgaaGreatDoor
set_option linter.unusedSimpArgs false
set_option linter.unusedVariables false
open Go Go.RowKit

theorem isW_k {t : Tok} {x : List UInt8} (h : t.k ≠ 111) (h' : t.k ≠ 110) : isW t x = false := by
  unfold isW
  rw [Bool.and_eq_false_iff]
  right
  simp [h, h']
theorem par_lit {d : Nat} {t : Tok} {r : List Tok} {v : Val} (hk : t.k = 48 ∨ t.k = 39) (hr : readP t.t = some v) : Par true .un d (t :: r) (.ok (.lit v, r)) := by
  have hw : ∀ x, isW t x = false := fun x => by rcases hk with h | h <;> exact isW_k (by rw [h]; decide) (by rw [h]; decide)
  have h1 : ¬ isW (hdT (t :: r)) minusW = true := by show ¬ isW t minusW = true; rw [hw]; simp
  have h2 : ¬ isW (hdT (t :: r)) openW = true := by show ¬ isW t openW = true; rw [hw]; simp
  have h3 : (hdT (t :: r)).k = 48 ∨ (hdT (t :: r)).k = 39 := hk
  have h4 : readP (hdT (t :: r)).t = some v := hr
  exact ⟨1, by unfold parseX; rw [if_neg h1, if_neg h2, if_pos h3, h4]; rfl⟩
theorem par_lit_bad {d : Nat} {t : Tok} {r : List Tok} (hk : t.k = 48 ∨ t.k = 39) (hr : readP t.t = none) : Par true .un d (t :: r) (.error (1, t.p)) := by
  have hw : ∀ x, isW t x = false := fun x => by rcases hk with h | h <;> exact isW_k (by rw [h]; decide) (by rw [h]; decide)
  have h1 : ¬ isW (hdT (t :: r)) minusW = true := by show ¬ isW t minusW = true; rw [hw]; simp
  have h2 : ¬ isW (hdT (t :: r)) openW = true := by show ¬ isW t openW = true; rw [hw]; simp
  have h3 : (hdT (t :: r)).k = 48 ∨ (hdT (t :: r)).k = 39 := hk
  have h4 : readP (hdT (t :: r)).t = none := hr
  exact ⟨1, by unfold parseX; rw [if_neg h1, if_neg h2, if_pos h3, h4]; rfl⟩
theorem isW_t {t : Tok} {x : List UInt8} (h : t.t ≠ x) : isW t x = false := by
  unfold isW
  rw [Bool.and_eq_false_iff]
  left
  simp [h]
theorem par_bool {d : Nat} {t : Tok} {r : List Tok} (hk : ¬ (t.k = 48 ∨ t.k = 39)) (ht : t.t = trueW ∨ t.t = falseW) : Par true .un d (t :: r) (.ok (.lit ⟨2, if t.t = trueW then 1 else 0, ⟨#[]⟩⟩, r)) := by
  have hw : ∀ x, x ≠ trueW → x ≠ falseW → isW t x = false := fun x g1 g2 => isW_t (ht.elim (fun h => by rw [h]; exact g1.symm) (fun h => by rw [h]; exact g2.symm))
  have h1 : ¬ isW (hdT (t :: r)) minusW = true := by show ¬ isW t minusW = true; rw [hw _ (by decide) (by decide)]; simp
  have h2 : ¬ isW (hdT (t :: r)) openW = true := by show ¬ isW t openW = true; rw [hw _ (by decide) (by decide)]; simp
  have h3 : ¬ ((hdT (t :: r)).k = 48 ∨ (hdT (t :: r)).k = 39) := hk
  have h4 : (hdT (t :: r)).t = trueW ∨ (hdT (t :: r)).t = falseW := ht
  exact ⟨1, by unfold parseX; rw [if_neg h1, if_neg h2, if_neg h3, if_pos h4]; rfl⟩
/-- a token that is a name. -/
def IsName (t : Tok) : Prop := t.k = 110 ∧ t.t ∉ wordsW
theorem IsName.facts {t : Tok} (hn : IsName t) (ho : TokOk t) : isW t minusW = false ∧ isW t openW = false ∧ ¬ (t.k = 48 ∨ t.k = 39) ∧ ¬ (t.t = trueW ∨ t.t = falseW) := by
  have ht : ∀ x ∈ signsW, isW t x = false := fun x hx => by
    rw [tok_sign ho hx, hn.1]
    simp
  refine ⟨ht _ (by decide), ht _ (by decide), ?_, ?_⟩
  · rw [hn.1]; decide
  · rintro (h | h)
    · exact hn.2 (by rw [h]; decide)
    · exact hn.2 (by rw [h]; decide)
theorem par_long {d : Nat} {t : Tok} {r : List Tok} (hn : IsName t) (ho : TokOk t) (hl : 12 < t.t.length) : Par true .un d (t :: r) (.error (4, t.p)) := by
  obtain ⟨f1, f2, f3, f4⟩ := hn.facts ho
  have h1 : ¬ isW (hdT (t :: r)) minusW = true := by show ¬ isW t minusW = true; rw [f1]; simp
  have h2 : ¬ isW (hdT (t :: r)) openW = true := by show ¬ isW t openW = true; rw [f2]; simp
  have h3 : ¬ ((hdT (t :: r)).k = 48 ∨ (hdT (t :: r)).k = 39) := f3
  have h4 : ¬ ((hdT (t :: r)).t = trueW ∨ (hdT (t :: r)).t = falseW) := f4
  have h5 : (hdT (t :: r)).k = 110 ∧ (hdT (t :: r)).t ∉ wordsW := hn
  have h6 : 12 < (hdT (t :: r)).t.length := hl
  exact ⟨1, by unfold parseX; rw [if_neg h1, if_neg h2, if_neg h3, if_neg h4, if_pos h5, if_pos h6]; rfl⟩
theorem par_name {d : Nat} {t : Tok} {r : List Tok} (hn : IsName t) (ho : TokOk t) (hl : ¬ 12 < t.t.length) (hq : isW (hdT r) openW = false) : Par true .un d (t :: r) (.ok (.name t.t t.p, r)) := by
  obtain ⟨f1, f2, f3, f4⟩ := hn.facts ho
  have h1 : ¬ isW (hdT (t :: r)) minusW = true := by show ¬ isW t minusW = true; rw [f1]; simp
  have h2 : ¬ isW (hdT (t :: r)) openW = true := by show ¬ isW t openW = true; rw [f2]; simp
  have h3 : ¬ ((hdT (t :: r)).k = 48 ∨ (hdT (t :: r)).k = 39) := f3
  have h4 : ¬ ((hdT (t :: r)).t = trueW ∨ (hdT (t :: r)).t = falseW) := f4
  have h5 : (hdT (t :: r)).k = 110 ∧ (hdT (t :: r)).t ∉ wordsW := hn
  have h6 : ¬ 12 < (hdT (t :: r)).t.length := hl
  have h7 : ¬ isW (hdT (t :: r).tail) openW = true := by show ¬ isW (hdT r) openW = true; rw [hq]; simp
  exact ⟨1, by unfold parseX; rw [if_neg h1, if_neg h2, if_neg h3, if_neg h4, if_pos h5, if_neg h6, if_neg h7]; rfl⟩
theorem par_callq {d : Nat} {t u : Tok} {r : List Tok} {s : Res} (hn : IsName t) (ho : TokOk t) (hl : ¬ 12 < t.t.length) (hq : isW u openW = true) (hs : if 12 < d + 1 then s = .error (4, u.p) else Par true (.args t.t t.p []) (d + 1) r s) : Par true .un d (t :: u :: r) s := by
  obtain ⟨f1, f2, f3, f4⟩ := hn.facts ho
  have h1 : ¬ isW (hdT (t :: u :: r)) minusW = true := by show ¬ isW t minusW = true; rw [f1]; simp
  have h2 : ¬ isW (hdT (t :: u :: r)) openW = true := by show ¬ isW t openW = true; rw [f2]; simp
  have h3 : ¬ ((hdT (t :: u :: r)).k = 48 ∨ (hdT (t :: u :: r)).k = 39) := f3
  have h4 : ¬ ((hdT (t :: u :: r)).t = trueW ∨ (hdT (t :: u :: r)).t = falseW) := f4
  have h5 : (hdT (t :: u :: r)).k = 110 ∧ (hdT (t :: u :: r)).t ∉ wordsW := hn
  have h6 : ¬ 12 < (hdT (t :: u :: r)).t.length := hl
  have h7 : isW (hdT (t :: u :: r).tail) openW = true := hq
  by_cases hd : 12 < d + 1
  · rw [if_pos hd] at hs
    subst hs
    exact ⟨1, by unfold parseX; rw [if_neg h1, if_neg h2, if_neg h3, if_neg h4, if_pos h5, if_neg h6, if_pos h7, if_pos hd]; rfl⟩
  · rw [if_neg hd] at hs
    obtain ⟨n, hn⟩ := hs
    exact ⟨n + 1, by unfold parseX; rw [if_neg h1, if_neg h2, if_neg h3, if_neg h4, if_pos h5, if_neg h6, if_pos h7, if_neg hd]; exact hn⟩
theorem par_brackets {d : Nat} {t : Tok} {r : List Tok} {s : Res} (ht : isW t openW = true) (hs : if 12 < d + 1 then s = .error (4, t.p) else ∃ s', Par true (.bin 0) (d + 1) r s' ∧ s = closeR s') : Par true .un d (t :: r) s := by
  have h1 : ¬ isW (hdT (t :: r)) minusW = true := by
    show ¬ isW t minusW = true
    intro h
    unfold isW at h ht
    simp only [Bool.and_eq_true, beq_iff_eq] at h ht
    rw [ht.1] at h
    exact absurd h.1 (by decide)
  have h2 : isW (hdT (t :: r)) openW = true := ht
  by_cases hd : 12 < d + 1
  · rw [if_pos hd] at hs
    subst hs
    exact ⟨1, by unfold parseX; rw [if_neg h1, if_pos h2, if_pos hd]; rfl⟩
  · rw [if_neg hd] at hs
    obtain ⟨s', ⟨n, hn⟩, rfl⟩ := hs
    refine ⟨n + 1, ?_⟩
    unfold parseX
    rw [if_neg h1, if_pos h2, if_neg hd, show (t :: r).tail = r from rfl, show topJ true = .bin 0 from rfl, hn]
    cases s' with
    | error e => rfl
    | ok x =>
      show (if isW (hdT x.2) closeW = true then PR.ok (x.1, x.2.tail) else PR.err 1 (hdT x.2).p) = some (closeR (.ok x))
      unfold closeR
      simp only
      split <;> rfl
theorem par_none {d : Nat} {t : Tok} {r : List Tok} (h1 : isW t minusW = false) (h2 : isW t openW = false) (h3 : ¬ (t.k = 48 ∨ t.k = 39)) (h4 : ¬ (t.t = trueW ∨ t.t = falseW)) (h5 : ¬ IsName t) : Par true .un d (t :: r) (.error (1, t.p)) := by
  have g1 : ¬ isW (hdT (t :: r)) minusW = true := by show ¬ isW t minusW = true; rw [h1]; simp
  have g2 : ¬ isW (hdT (t :: r)) openW = true := by show ¬ isW t openW = true; rw [h2]; simp
  have g3 : ¬ ((hdT (t :: r)).k = 48 ∨ (hdT (t :: r)).k = 39) := h3
  have g4 : ¬ ((hdT (t :: r)).t = trueW ∨ (hdT (t :: r)).t = falseW) := h4
  have g5 : ¬ ((hdT (t :: r)).k = 110 ∧ (hdT (t :: r)).t ∉ wordsW) := h5
  exact ⟨1, by unfold parseX; rw [if_neg g1, if_neg g2, if_neg g3, if_neg g4, if_neg g5]; rfl⟩
theorem tok_open {t : Tok} (h : TokOk t) : isW t openW = decide (t.t = openW) := by
  by_cases ht : t.t = openW
  · have hk : t.k = 111 := by
      rcases h with ⟨_, h2⟩ | ⟨_, c, r, h2, h3⟩ | ⟨_, c, r, h2, h3⟩ | ⟨_, r, h2⟩ | ⟨h1, _⟩
      · rw [ht] at h2; cases h2
      · rw [ht] at h2; cases h2; exact absurd h3 (by decide)
      · rw [ht] at h2; cases h2; exact absurd h3 (by decide)
      · rw [ht] at h2; cases h2
      · exact h1
    unfold isW
    simp [ht, hk]
  · rw [isW_t ht]; simp [ht]
/-! rows of tokens -/
theorem tokCells_split : ∀ (l : List Tok) (j : Nat) (u : Value), (tokCells l)[j]? = some u → ∃ i, ∃ h : i < l.length, ∃ c, c < 3 ∧ j = i * 3 + c ∧ (l[i].cells)[c]? = some u
  | [], j, u, h => by simp [tokCells] at h
  | t :: l, j, u, h => by
    have e : tokCells (t :: l) = t.cells ++ tokCells l := by simp [tokCells]
    rw [e] at h
    by_cases hj : j < 3
    · refine ⟨0, by simp, j, hj, by omega, ?_⟩
      rw [List.getElem?_append_left (by show j < 3; exact hj)] at h
      exact h
    · rw [List.getElem?_append_right (by show 3 ≤ j; omega)] at h
      obtain ⟨i, hi, c, hc, hjc, hu⟩ := tokCells_split l (j - 3) u h
      exact ⟨i + 1, by simp only [List.length_cons]; omega, c, hc, by omega, hu⟩
theorem tokCells_at : ∀ (l : List Tok) (i : Nat) (h : i < l.length) (c : Nat), c < 3 → (tokCells l)[i * 3 + c]? = (l[i].cells)[c]?
  | [], i, h, _, _ => absurd h (by simp)
  | t :: l, i, h, c, hc => by
    have e : tokCells (t :: l) = t.cells ++ tokCells l := by simp [tokCells]
    rw [e]
    cases i with
    | zero =>
      rw [List.getElem?_append_left (by show 0 * 3 + c < 3; omega)]
      simp
    | succ i =>
      rw [List.getElem?_append_right (by show 3 ≤ (i + 1) * 3 + c; omega)]
      have : (i + 1) * 3 + c - (t.cells).length = i * 3 + c := by show (i + 1) * 3 + c - 3 = _; omega
      rw [this, tokCells_at l i (by simpa using h) c hc]
      simp
theorem tokCells_len (l : List Tok) : (tokCells l).length = l.length * 3 := by
  induction l with
  | nil => rfl
  | cons t l ih =>
    have e : tokCells (t :: l) = t.cells ++ tokCells l := by simp [tokCells]
    rw [e, List.length_append, ih]
    show 3 + l.length * 3 = (l.length + 1) * 3
    omega
theorem toks_of_own {w : World} {B P : Nat} {v : Value} {l : List Tok} (h : w.ownsRow B 102 3 v l.length (tokCells l)) (hP : ∀ g, v.ownBlock = some g → g ≠ P) : ToksOf P w v l := by
  rcases h.2 with ⟨hv, h0⟩ | ⟨g, cap, cur, hv, hb, hg, hnc, hcm, hcs, htake⟩
  · have hl : l = [] := List.eq_nil_of_length_eq_zero h0
    subst hl
    refine ⟨⟨none, 0, hv, Nat.le_refl _, by unfold maxLen; omega, fun _ => rfl, fun i hi => absurd hi (by simp)⟩, fun g o n c e => ?_⟩
    rw [hv] at e; cases e
  · have hne := hP g (by rw [hv]; rfl)
    have hc := h.cells (g := g) (by rw [hv]; rfl)
    refine ⟨⟨some ⟨g, 0, none⟩, cap, hv, hnc, hcm, (fun e => by cases e), fun i hi => ⟨g, 0, rfl, hne, ?_⟩⟩, fun g' o n c e => ?_⟩
    · have at_ : ∀ c u, c < 3 → (l[i].cells)[c]? = some u → w.cell? ⟨g, 0 + i * 3 + c, none⟩ = some u := fun c u h3 hu => by
        have := hc (i * 3 + c) u (by rw [tokCells_at l i hi c h3]; exact hu)
        rw [add_none rfl] at this
        rw [Nat.zero_add]
        simpa using this
      exact ⟨at_ 0 _ (by omega) rfl, at_ 1 _ (by omega) rfl, at_ 2 _ (by omega) rfl⟩
    · rw [hv] at e
      simp only [Value.slice.injEq, Option.some.injEq, Addr.mk.injEq] at e
      obtain ⟨⟨rfl, -, -⟩, -, -⟩ := e
      exact ⟨hne, _, _, hg⟩
theorem toks_cells {P : Nat} {w : World} {g o n c : Nat} {l : List Tok} (h : ToksOf P w (.slice (some ⟨g, o, none⟩) n c) l) : n = l.length ∧ l.length ≤ c ∧ ∀ j u, (tokCells l)[j]? = some u → w.cell? ((⟨g, o, none⟩ : Addr).add j) = some u := by
  obtain ⟨⟨a, c', hv, hl, hc, hn, he⟩, -⟩ := h
  simp only [Value.slice.injEq] at hv
  obtain ⟨rfl, rfl, rfl⟩ := hv
  refine ⟨rfl, hl, fun j u hj => ?_⟩
  obtain ⟨i, hi, k, hk, rfl, hu⟩ := tokCells_split l j u hj
  obtain ⟨b, o', hb, -, h0, h1, h2⟩ := he i hi
  simp only [Option.some.injEq, Addr.mk.injEq] at hb
  obtain ⟨rfl, rfl, -⟩ := hb
  rw [add_none rfl]
  match k, hk with
  | 0, _ => have : some _ = some u := hu; cases this; simpa [Nat.add_assoc] using h0
  | 1, _ => have : some _ = some u := hu; cases this; simpa [Nat.add_assoc] using h1
  | 2, _ => have : some _ = some u := hu; cases this; simpa [Nat.add_assoc] using h2
end Go.Proofs.YtgajofkeidjbgaaGreatDoor
namespace Go.Proofs.YtgajofkeidjbgaaGreatDoor
set_option linter.unusedSimpArgs false
set_option linter.unusedVariables false
open Go Go.RowKit

/-! the arguments of a call -/
theorem par_args_close {f : List UInt8} {p d : Nat} {acc : List Ex} {t : Tok} {r : List Tok} (h : isW t closeW = true) : Par true (.args f p acc) d (t :: r) (.ok (.call f p acc, r)) := by
  have h' : isW (hdT (t :: r)) closeW = true := h
  exact ⟨1, by unfold parseX; rw [if_pos h']; rfl⟩
theorem par_args_bad {f : List UInt8} {p d : Nat} {acc : List Ex} {t : Tok} {r : List Tok} (h : isW t closeW = false) (ha : acc ≠ []) (hc : isW t commaW = false) : Par true (.args f p acc) d (t :: r) (.error (1, t.p)) := by
  have h' : ¬ isW (hdT (t :: r)) closeW = true := by show ¬ isW t closeW = true; rw [h]; simp
  have h2 : acc ≠ [] ∧ ¬ isW (hdT (t :: r)) commaW = true := ⟨ha, by show ¬ isW t commaW = true; rw [hc]; simp⟩
  exact ⟨1, by unfold parseX; rw [if_neg h', if_pos h2]; rfl⟩
theorem par_args_err {f : List UInt8} {p d : Nat} {acc : List Ex} {t : Tok} {r : List Tok} {e : Fault} (h : isW t closeW = false) (hc : acc = [] ∨ isW t commaW = true) (hb : Par true (.bin 0) d (if acc = [] then t :: r else r) (.error e)) : Par true (.args f p acc) d (t :: r) (.error e) := by
  have h' : ¬ isW (hdT (t :: r)) closeW = true := by show ¬ isW t closeW = true; rw [h]; simp
  have h2 : ¬ (acc ≠ [] ∧ ¬ isW (hdT (t :: r)) commaW = true) := fun hx => by
    rcases hc with hc | hc
    · exact hx.1 hc
    · exact hx.2 hc
  obtain ⟨n, hn⟩ := hb
  exact ⟨n + 1, by unfold parseX; rw [if_neg h', if_neg h2, show topJ true = .bin 0 from rfl, show (t :: r).tail = r from rfl, hn]; rfl⟩
theorem par_args_go {f : List UInt8} {p d : Nat} {acc : List Ex} {t : Tok} {r l : List Tok} {x : Ex} {s : Res} (h : isW t closeW = false) (hc : acc = [] ∨ isW t commaW = true) (hb : Par true (.bin 0) d (if acc = [] then t :: r else r) (.ok (x, l)))
    (hs : Par true (.args f p (acc ++ [x])) d l s) : Par true (.args f p acc) d (t :: r) s := by
  have h' : ¬ isW (hdT (t :: r)) closeW = true := by show ¬ isW t closeW = true; rw [h]; simp
  have h2 : ¬ (acc ≠ [] ∧ ¬ isW (hdT (t :: r)) commaW = true) := fun hx => by
    rcases hc with hc | hc
    · exact hx.1 hc
    · exact hx.2 hc
  obtain ⟨n, e1, e2⟩ := hb.both hs
  exact ⟨n + 1, by unfold parseX; rw [if_neg h', if_neg h2, show topJ true = .bin 0 from rfl, show (t :: r).tail = r from rfl, e1]; exact e2⟩
/-! the levels -/
theorem par_bin_un {d : Nat} {l : List Tok} {s : Res} (h : Par true .un d l s) : Par true (.bin 5) d l s := by
  obtain ⟨n, hn⟩ := h
  exact ⟨n + 1, by unfold parseX; rw [if_pos (by omega)]; exact hn⟩
theorem par_bin_not {d : Nat} {t : Tok} {r : List Tok} (h : isW t notW = true) {s : Res} (hs : if 12 < d + 1 then s = .error (4, t.p) else ∃ s', Par true (.bin 2) (d + 1) r s' ∧ s = match s' with
      | .error f => .error f
      | .ok x => .ok (.un false t.p x.1, x.2)) : Par true (.bin 2) d (t :: r) s := by
  have h' : 2 = 2 ∧ isW (hdT (t :: r)) notW = true := ⟨rfl, h⟩
  by_cases hd : 12 < d + 1
  · rw [if_pos hd] at hs
    subst hs
    exact ⟨1, by unfold parseX; rw [if_neg (by omega), if_pos h', if_pos hd]; rfl⟩
  · rw [if_neg hd] at hs
    obtain ⟨s', ⟨n, hn⟩, rfl⟩ := hs
    refine ⟨n + 1, ?_⟩
    unfold parseX
    rw [if_neg (by omega), if_pos h', if_neg hd, show (t :: r).tail = r from rfl, hn]
    cases s' <;> rfl
theorem par_bin_err {L d : Nat} {l : List Tok} {e : Fault} (hL : L < 5) (hn : ¬ (L = 2 ∧ isW (hdT l) notW = true)) (h : Par true (.bin (L + 1)) d l (.error e)) : Par true (.bin L) d l (.error e) := by
  obtain ⟨n, h⟩ := h
  exact ⟨n + 1, by unfold parseX; rw [if_neg (by omega), if_neg hn, h]; rfl⟩
theorem par_bin_go {L d : Nat} {l r : List Tok} {x : Ex} {s : Res} (hL : L < 5) (hn : ¬ (L = 2 ∧ isW (hdT l) notW = true)) (h : Par true (.bin (L + 1)) d l (.ok (x, r))) (hs : Par true (.loop L x) d r s) : Par true (.bin L) d l s := by
  obtain ⟨n, e1, e2⟩ := h.both hs
  exact ⟨n + 1, by unfold parseX; rw [if_neg (by omega), if_neg hn, e1]; exact e2⟩
theorem par_loop_end {L d : Nat} {l : List Tok} {x : Ex} (h : (lvlOps L).any (isW (hdT l)) = false) : Par true (.loop L x) d l (.ok (x, l)) := ⟨1, by unfold parseX; rw [if_neg (by rw [h]; simp)]; rfl⟩
theorem par_loop_err {L d : Nat} {t : Tok} {r : List Tok} {x : Ex} {e : Fault} (h : (lvlOps L).any (isW t) = true) (hb : Par true (.bin (L + 1)) d r (.error e)) : Par true (.loop L x) d (t :: r) (.error e) := by
  have h' : (lvlOps L).any (isW (hdT (t :: r))) = true := h
  obtain ⟨n, hn⟩ := hb
  exact ⟨n + 1, by unfold parseX; rw [if_pos h', show (t :: r).tail = r from rfl, hn]; rfl⟩
theorem par_loop_go {L d : Nat} {t : Tok} {r l : List Tok} {x y : Ex} {s : Res} (h : (lvlOps L).any (isW t) = true) (hb : Par true (.bin (L + 1)) d r (.ok (y, l)))
    (hs : if L = 2 then s = .ok (.bin t.t t.p x y, l) else Par true (.loop L (.bin t.t t.p x y)) d l s) : Par true (.loop L x) d (t :: r) s := by
  have h' : (lvlOps L).any (isW (hdT (t :: r))) = true := h
  by_cases h2 : L = 2
  · rw [if_pos h2] at hs
    subst hs
    obtain ⟨n, hn⟩ := hb
    refine ⟨n + 1, ?_⟩
    unfold parseX
    rw [if_pos h', show (t :: r).tail = r from rfl, hn]
    show (if L = 2 then _ else _) = _
    rw [if_pos h2]
    rfl
  · rw [if_neg h2] at hs
    obtain ⟨n, e1, e2⟩ := hb.both hs
    refine ⟨n + 1, ?_⟩
    unfold parseX
    rw [if_pos h', show (t :: r).tail = r from rfl, e1]
    show (if L = 2 then _ else _) = _
    rw [if_neg h2]
    exact e2
end Go.Proofs.YtgajofkeidjbgaaGreatDoor
namespace Go.Proofs.YtgajofkeidjbgaaGreatDoor
set_option linter.unusedSimpArgs false
set_option linter.unusedVariables false
open Go Go.RowKit

mutual
/-- an upper bound of what is written of a tree. -/
def costP : Ex → Nat
  | .lit v => (showV v).length
  | .name s _ => s.length
  | .un _ _ x => 6 + costP x
  | .bin o _ x y => o.length + 4 + costP x + costP y
  | .call f _ l => f.length + 2 + costsP l
def costsP : List Ex → Nat
  | [] => 0
  | x :: l => 2 + costP x + costsP l
end
end Go.Proofs.YtgajofkeidjbgaaGreatDoor
namespace Go.Proofs.YtgajofkeidjbgaaGreatDoor
set_option linter.unusedSimpArgs false
set_option linter.unusedVariables false
open Go Go.RowKit

def weightT (l : List Tok) : Nat := match l with
  | [] => 0
  | t :: l => t.t.length + 8 + weightT l
def costJ : Job → Nat
  | .loop _ x => costP x
  | .args f _ acc => f.length + 2 + costsP acc + (if acc = [] then 2 else 0)
  | _ => 0
theorem weight_tail {l : List Tok} (h : l ≠ []) : weightT l = (hdT l).t.length + 8 + weightT l.tail := by
  cases l with
  | nil => exact absurd rfl h
  | cons t l => rfl
theorem weight_tail_le (l : List Tok) : weightT l.tail ≤ weightT l := by
  cases l with
  | nil => exact Nat.le_refl _
  | cons t l => show weightT l ≤ t.t.length + 8 + weightT l; omega
theorem isW_ne {l : List Tok} {x : List UInt8} (h : isW (hdT l) x = true) (hx : x ≠ []) : l ≠ [] := by
  intro e
  subst e
  unfold isW at h
  simp only [Bool.and_eq_true, beq_iff_eq] at h
  exact hx h.1.symm
theorem isW_len {t : Tok} {x : List UInt8} (h : isW t x = true) : t.t.length = x.length := by
  unfold isW at h
  simp only [Bool.and_eq_true, beq_iff_eq] at h
  rw [h.1]
theorem costs_add (l : List Ex) (x : Ex) : costsP (l ++ [x]) = costsP l + 2 + costP x := by
  induction l with
  | nil => show costsP [x] = _; unfold costsP; unfold costsP; omega
  | cons y l ih =>
    show costsP (y :: (l ++ [x])) = _
    conv => lhs; unfold costsP
    conv => rhs; unfold costsP
    rw [ih]; omega
theorem read_show {s : List UInt8} {v : Val} (h : readP s = some v) : showV v = s := by
  unfold readP at h
  split at h
  · rename_i hs
    obtain rfl := Option.some.inj h
    exact hs
  · cases h
theorem any_ne {L : Nat} {l : List Tok} (h : (lvlOps L).any (isW (hdT l)) = true) : l ≠ [] := by
  intro e
  subst e
  have := lvl_op h
  exact absurd this (by decide)
theorem parse_cost : ∀ (n : Nat) (j : Job) (d : Nat) (l : List Tok) (x : Ex) (r : List Tok), (match j with | .climb _ => False | .cloop _ _ _ _ => False | _ => True) → parseX true n j d l = some (.ok (x, r)) → costP x + weightT r ≤ weightT l + costJ j
  | 0, _, _, _, _, _, _, h => by unfold parseX at h; cases h
  | n + 1, j, d, l, x, r, hj, h => by
    have ih := parse_cost n
    unfold parseX at h
    cases j with
    | climb q => exact hj.elim
    | cloop q m f y0 => exact hj.elim
    | bin L =>
      simp only at h
      show _ ≤ weightT l + 0
      split at h
      · exact ih _ _ _ _ _ trivial h
      · split at h
        · rename_i hw
          split at h
          · cases h
          · cases hc : parseX true n (.bin 2) (d + 1) l.tail with
            | none => rw [hc] at h; cases h
            | some v =>
              rw [hc] at h
              cases v with
              | error e => cases h
              | ok y =>
                obtain ⟨y, r1⟩ := y
                have i1 := ih _ _ _ _ _ trivial hc
                cases h
                have h1 := weight_tail (isW_ne hw.2 (by decide))
                have h2 : costJ (.bin 2) = 0 := rfl
                have h3 : costP (.un false (hdT l).p y) = 6 + costP y := by conv => lhs; unfold costP
                have h4 := isW_len hw.2
                simp only [List.length_cons, List.length_nil] at h4
                show costP (.un false (hdT l).p y) + weightT r1 ≤ _
                omega
        · cases hc : parseX true n (.bin (L + 1)) d l with
          | none => rw [hc] at h; cases h
          | some v =>
            rw [hc] at h
            cases v with
            | error e => cases h
            | ok y =>
              obtain ⟨y, r1⟩ := y
              have i1 := ih _ _ _ _ _ trivial hc
              have i2 := ih _ _ _ _ _ trivial h
              have h2 : costJ (.bin (L + 1)) = 0 := rfl
              have h3 : costJ (.loop L y) = costP y := rfl
              have i2' : costP x + weightT r ≤ weightT r1 + costP y := i2
              omega
    | loop L y0 =>
      simp only at h
      show _ ≤ weightT l + costP y0
      split at h
      · rename_i hop
        have h1 := weight_tail (any_ne hop)
        cases hc : parseX true n (.bin (L + 1)) d l.tail with
        | none => rw [hc] at h; cases h
        | some v =>
          rw [hc] at h
          cases v with
          | error e => cases h
          | ok y =>
            obtain ⟨y, r1⟩ := y
            have i1 := ih _ _ _ _ _ trivial hc
            have h2 : costJ (.bin (L + 1)) = 0 := rfl
            have h3 : costP (.bin (hdT l).t (hdT l).p y0 y) = (hdT l).t.length + 4 + costP y0 + costP y := by conv => lhs; unfold costP
            change (if L = 2 then PR.ok (Ex.bin (hdT l).t (hdT l).p y0 y, r1) else parseX true n (.loop L (.bin (hdT l).t (hdT l).p y0 y)) d r1) = some (.ok (x, r)) at h
            split at h
            · cases h
              omega
            · have i2 : costP x + weightT r ≤ weightT r1 + costP (.bin (hdT l).t (hdT l).p y0 y) := ih _ _ _ _ _ trivial h
              omega
      · cases h; omega
    | args f p acc =>
      simp only at h
      show _ ≤ weightT l + (f.length + 2 + costsP acc + (if acc = [] then 2 else 0))
      split at h
      · cases h
        have h1 := weight_tail_le l
        have h3 : costP (.call f p acc) = f.length + 2 + costsP acc := by conv => lhs; unfold costP
        omega
      · split at h
        · cases h
        · rename_i hcm
          cases hc : parseX true n (topJ true) d (if acc = [] then l else l.tail) with
          | none => rw [hc] at h; cases h
          | some v =>
            rw [hc] at h
            cases v with
            | error e => cases h
            | ok y =>
              obtain ⟨y, r1⟩ := y
              have i1 : costP y + weightT r1 ≤ weightT (if acc = [] then l else l.tail) + 0 := ih _ _ _ _ _ trivial hc
              have i2 : costP x + weightT r ≤ weightT r1 + (f.length + 2 + costsP (acc ++ [y]) + (if acc ++ [y] = [] then 2 else 0)) := ih _ _ _ _ _ trivial h
              rw [if_neg (by simp), costs_add] at i2
              by_cases ha : acc = []
              · rw [if_pos ha] at i1 ⊢
                omega
              · rw [if_neg ha] at i1 ⊢
                have hw : isW (hdT l) commaW = true := by
                  refine Decidable.byContradiction fun hn => hcm ⟨ha, hn⟩
                have h1 := weight_tail (isW_ne hw (by decide))
                omega
    | un =>
      simp only at h
      show _ ≤ weightT l + 0
      split at h
      · rename_i hw
        split at h
        · cases h
        · cases hc : parseX true n .un (d + 1) l.tail with
          | none => rw [hc] at h; cases h
          | some v =>
            rw [hc] at h
            cases v with
            | error e => cases h
            | ok y =>
              obtain ⟨y, r1⟩ := y
              have i1 : costP y + weightT r1 ≤ weightT l.tail + 0 := ih _ _ _ _ _ trivial hc
              cases h
              have h1 := weight_tail (isW_ne hw (by decide))
              have h3 : costP (.un true (hdT l).p y) = 6 + costP y := by conv => lhs; unfold costP
              show costP (.un true (hdT l).p y) + weightT r1 ≤ _
              omega
      · split at h
        · split at h
          · cases h
          · cases hc : parseX true n (topJ true) (d + 1) l.tail with
            | none => rw [hc] at h; cases h
            | some v =>
              rw [hc] at h
              cases v with
              | error e => cases h
              | ok y =>
                obtain ⟨y, r1⟩ := y
                have i1 : costP y + weightT r1 ≤ weightT l.tail + 0 := ih _ _ _ _ _ trivial hc
                change (if isW (hdT r1) closeW = true then PR.ok (y, r1.tail) else PR.err 1 (hdT r1).p) = some (.ok (x, r)) at h
                split at h
                · cases h
                  have h1 := weight_tail_le l
                  have h2 := weight_tail_le r1
                  omega
                · cases h
        · split at h
          · rename_i hk
            have hne : l ≠ [] := fun e => by subst e; rcases hk with h | h <;> exact absurd h (by decide)
            have h1 := weight_tail hne
            cases hr : readP (hdT l).t with
            | none => rw [hr] at h; cases h
            | some v =>
              rw [hr] at h
              cases h
              have h3 : costP (.lit v) = (hdT l).t.length := by
                show (showV v).length = _
                rw [read_show hr]
              omega
          · split at h
            · rename_i ht
              have hne : l ≠ [] := fun e => by subst e; rcases ht with h | h <;> exact absurd h (by decide)
              have h1 := weight_tail hne
              cases h
              have h3 : costP (.lit ⟨2, if (hdT l).t = trueW then 1 else 0, ⟨#[]⟩⟩) = (hdT l).t.length := by
                show (showV _).length = _
                rcases ht with ht | ht
                · rw [ht, if_pos rfl]; decide +kernel
                · rw [ht, if_neg (by decide)]; decide +kernel
              omega
            · split at h
              · rename_i hk
                have hne : l ≠ [] := fun e => by subst e; exact absurd hk.1 (by decide)
                have h1 := weight_tail hne
                split at h
                · cases h
                · split at h
                  · rename_i hq
                    have h2 := weight_tail (isW_ne hq (by decide))
                    split at h
                    · cases h
                    · have i1 : costP x + weightT r ≤ weightT l.tail.tail + ((hdT l).t.length + 2 + costsP [] + (if ([] : List Ex) = [] then 2 else 0)) := ih _ _ _ _ _ trivial h
                      rw [if_pos rfl, show costsP [] = 0 by unfold costsP; rfl] at i1
                      omega
                  · cases h
                    have h3 : costP (.name (hdT l).t (hdT l).p) = (hdT l).t.length := by conv => lhs; unfold costP
                    omega
              · cases h
theorem weight_lex : ∀ (n p : Nat) (s : List UInt8) (l : List Tok), lexX n p s = .ok l → s.length ≤ n → weightT l ≤ s.length * 9 + 8
  | n, p, [], l, h, _ => by
    unfold lexX at h
    cases h
    show 0 + 8 + 0 ≤ _
    omega
  | 0, p, c :: s, l, h, hl => absurd hl (by simp)
  | n + 1, p, c :: s, l, h, hl => by
    simp only [List.length_cons] at hl ⊢
    unfold lexX at h
    split at h
    · have := weight_lex n _ _ _ h (by omega)
      omega
    · cases ht : tokAt c s with
      | none => rw [ht] at h; cases h
      | some x =>
        obtain ⟨k, m⟩ := x
        rw [ht] at h
        simp only at h
        have hm := tokAt_len ht
        cases hr : lexX n (p + m) ((c :: s).drop m) with
        | error e => rw [hr] at h; cases h
        | ok l' =>
          rw [hr] at h
          cases h
          have ih := weight_lex n _ _ _ hr (by simp only [List.length_drop, List.length_cons]; omega)
          simp only [List.length_drop, List.length_cons] at ih
          show ((c :: s).take m).length + 8 + weightT l' ≤ _
          simp only [List.length_take, List.length_cons]
          omega
theorem text_cost {s : List UInt8} {x : Ex} (h : TextR true s (.ok x)) : costP x ≤ 2000 := by
  unfold TextR at h
  split at h
  · cases h
  · rename_i hs
    cases hx : lexX s.length 0 s with
    | error p => rw [hx] at h; cases h
    | ok l =>
      rw [hx] at h
      obtain ⟨q, ⟨n, hn⟩, h2⟩ := h
      have hw := weight_lex _ _ _ _ hx (Nat.le_refl _)
      unfold doneR at h2
      cases q with
      | error e => cases h2
      | ok y =>
        obtain ⟨y, r⟩ := y
        simp only at h2
        split at h2
        · cases h2
          have := parse_cost n _ 0 l x r trivial hn
          have h3 : costJ (topJ true) = 0 := rfl
          omega
        · cases h2
end Go.Proofs.YtgajofkeidjbgaaGreatDoor
