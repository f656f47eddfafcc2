/-
  PROVED HERE: in plain Lean: how much can be written of a text's expression.
-/
import Derived.Test.YtgajofkeidjbgaaGreatDoorGPrintN
import Derived.Test.YtgajofkeidjbgaaGreatDoorGParText
namespace Go.Proofs.YtgajofkeidjbgaaGreatDoor
set_option linter.unusedSimpArgs false
set_option linter.unusedVariables false
open Go Go.RowKit

def weightT (l : List Tok) : Nat := match l with
  | [] => 0
  | t :: l => t.t.length + 8 + weightT l
def costJ : Job → Nat
  | .loop _ x => costP x
  | .args f _ acc => f.length + 2 + costsP acc + (if acc = [] then 2 else 0)
  | _ => 0
theorem weight_tail {l : List Tok} (h : l ≠ []) : weightT l = (hdT l).t.length + 8 + weightT l.tail := by
  cases l with
  | nil => exact absurd rfl h
  | cons t l => rfl
theorem weight_tail_le (l : List Tok) : weightT l.tail ≤ weightT l := by
  cases l with
  | nil => exact Nat.le_refl _
  | cons t l => show weightT l ≤ t.t.length + 8 + weightT l; omega
theorem isW_ne {l : List Tok} {x : List UInt8} (h : isW (hdT l) x = true) (hx : x ≠ []) : l ≠ [] := by
  intro e
  subst e
  unfold isW at h
  simp only [Bool.and_eq_true, beq_iff_eq] at h
  exact hx h.1.symm
theorem isW_len {t : Tok} {x : List UInt8} (h : isW t x = true) : t.t.length = x.length := by
  unfold isW at h
  simp only [Bool.and_eq_true, beq_iff_eq] at h
  rw [h.1]
theorem costs_add (l : List Ex) (x : Ex) : costsP (l ++ [x]) = costsP l + 2 + costP x := by
  induction l with
  | nil => show costsP [x] = _; unfold costsP; unfold costsP; omega
  | cons y l ih =>
    show costsP (y :: (l ++ [x])) = _
    conv => lhs; unfold costsP
    conv => rhs; unfold costsP
    rw [ih]; omega
theorem read_show {s : List UInt8} {v : Val} (h : readP s = some v) : showV v = s := by
  unfold readP at h
  split at h
  · rename_i hs
    obtain rfl := Option.some.inj h
    exact hs
  · cases h
theorem any_ne {L : Nat} {l : List Tok} (h : (lvlOps L).any (isW (hdT l)) = true) : l ≠ [] := by
  intro e
  subst e
  have := lvl_op h
  exact absurd this (by decide)
theorem parse_cost : ∀ (n : Nat) (j : Job) (d : Nat) (l : List Tok) (x : Ex) (r : List Tok), (match j with | .climb _ => False | .cloop _ _ _ _ => False | _ => True) → parseX true n j d l = some (.ok (x, r)) → costP x + weightT r ≤ weightT l + costJ j
  | 0, _, _, _, _, _, _, h => by unfold parseX at h; cases h
  | n + 1, j, d, l, x, r, hj, h => by
    have ih := parse_cost n
    unfold parseX at h
    cases j with
    | climb q => exact hj.elim
    | cloop q m f y0 => exact hj.elim
    | bin L =>
      simp only at h
      show _ ≤ weightT l + 0
      split at h
      · exact ih _ _ _ _ _ trivial h
      · split at h
        · rename_i hw
          split at h
          · cases h
          · cases hc : parseX true n (.bin 2) (d + 1) l.tail with
            | none => rw [hc] at h; cases h
            | some v =>
              rw [hc] at h
              cases v with
              | error e => cases h
              | ok y =>
                obtain ⟨y, r1⟩ := y
                have i1 := ih _ _ _ _ _ trivial hc
                cases h
                have h1 := weight_tail (isW_ne hw.2 (by decide))
                have h2 : costJ (.bin 2) = 0 := rfl
                have h3 : costP (.un false (hdT l).p y) = 6 + costP y := by conv => lhs; unfold costP
                have h4 := isW_len hw.2
                simp only [List.length_cons, List.length_nil] at h4
                show costP (.un false (hdT l).p y) + weightT r1 ≤ _
                omega
        · cases hc : parseX true n (.bin (L + 1)) d l with
          | none => rw [hc] at h; cases h
          | some v =>
            rw [hc] at h
            cases v with
            | error e => cases h
            | ok y =>
              obtain ⟨y, r1⟩ := y
              have i1 := ih _ _ _ _ _ trivial hc
              have i2 := ih _ _ _ _ _ trivial h
              have h2 : costJ (.bin (L + 1)) = 0 := rfl
              have h3 : costJ (.loop L y) = costP y := rfl
              have i2' : costP x + weightT r ≤ weightT r1 + costP y := i2
              omega
    | loop L y0 =>
      simp only at h
      show _ ≤ weightT l + costP y0
      split at h
      · rename_i hop
        have h1 := weight_tail (any_ne hop)
        cases hc : parseX true n (.bin (L + 1)) d l.tail with
        | none => rw [hc] at h; cases h
        | some v =>
          rw [hc] at h
          cases v with
          | error e => cases h
          | ok y =>
            obtain ⟨y, r1⟩ := y
            have i1 := ih _ _ _ _ _ trivial hc
            have h2 : costJ (.bin (L + 1)) = 0 := rfl
            have h3 : costP (.bin (hdT l).t (hdT l).p y0 y) = (hdT l).t.length + 4 + costP y0 + costP y := by conv => lhs; unfold costP
            change (if L = 2 then PR.ok (Ex.bin (hdT l).t (hdT l).p y0 y, r1) else parseX true n (.loop L (.bin (hdT l).t (hdT l).p y0 y)) d r1) = some (.ok (x, r)) at h
            split at h
            · cases h
              omega
            · have i2 : costP x + weightT r ≤ weightT r1 + costP (.bin (hdT l).t (hdT l).p y0 y) := ih _ _ _ _ _ trivial h
              omega
      · cases h; omega
    | args f p acc =>
      simp only at h
      show _ ≤ weightT l + (f.length + 2 + costsP acc + (if acc = [] then 2 else 0))
      split at h
      · cases h
        have h1 := weight_tail_le l
        have h3 : costP (.call f p acc) = f.length + 2 + costsP acc := by conv => lhs; unfold costP
        omega
      · split at h
        · cases h
        · rename_i hcm
          cases hc : parseX true n (topJ true) d (if acc = [] then l else l.tail) with
          | none => rw [hc] at h; cases h
          | some v =>
            rw [hc] at h
            cases v with
            | error e => cases h
            | ok y =>
              obtain ⟨y, r1⟩ := y
              have i1 : costP y + weightT r1 ≤ weightT (if acc = [] then l else l.tail) + 0 := ih _ _ _ _ _ trivial hc
              have i2 : costP x + weightT r ≤ weightT r1 + (f.length + 2 + costsP (acc ++ [y]) + (if acc ++ [y] = [] then 2 else 0)) := ih _ _ _ _ _ trivial h
              rw [if_neg (by simp), costs_add] at i2
              by_cases ha : acc = []
              · rw [if_pos ha] at i1 ⊢
                omega
              · rw [if_neg ha] at i1 ⊢
                have hw : isW (hdT l) commaW = true := by
                  refine Decidable.byContradiction fun hn => hcm ⟨ha, hn⟩
                have h1 := weight_tail (isW_ne hw (by decide))
                omega
    | un =>
      simp only at h
      show _ ≤ weightT l + 0
      split at h
      · rename_i hw
        split at h
        · cases h
        · cases hc : parseX true n .un (d + 1) l.tail with
          | none => rw [hc] at h; cases h
          | some v =>
            rw [hc] at h
            cases v with
            | error e => cases h
            | ok y =>
              obtain ⟨y, r1⟩ := y
              have i1 : costP y + weightT r1 ≤ weightT l.tail + 0 := ih _ _ _ _ _ trivial hc
              cases h
              have h1 := weight_tail (isW_ne hw (by decide))
              have h3 : costP (.un true (hdT l).p y) = 6 + costP y := by conv => lhs; unfold costP
              show costP (.un true (hdT l).p y) + weightT r1 ≤ _
              omega
      · split at h
        · split at h
          · cases h
          · cases hc : parseX true n (topJ true) (d + 1) l.tail with
            | none => rw [hc] at h; cases h
            | some v =>
              rw [hc] at h
              cases v with
              | error e => cases h
              | ok y =>
                obtain ⟨y, r1⟩ := y
                have i1 : costP y + weightT r1 ≤ weightT l.tail + 0 := ih _ _ _ _ _ trivial hc
                change (if isW (hdT r1) closeW = true then PR.ok (y, r1.tail) else PR.err 1 (hdT r1).p) = some (.ok (x, r)) at h
                split at h
                · cases h
                  have h1 := weight_tail_le l
                  have h2 := weight_tail_le r1
                  omega
                · cases h
        · split at h
          · rename_i hk
            have hne : l ≠ [] := fun e => by subst e; rcases hk with h | h <;> exact absurd h (by decide)
            have h1 := weight_tail hne
            cases hr : readP (hdT l).t with
            | none => rw [hr] at h; cases h
            | some v =>
              rw [hr] at h
              cases h
              have h3 : costP (.lit v) = (hdT l).t.length := by
                show (showV v).length = _
                rw [read_show hr]
              omega
          · split at h
            · rename_i ht
              have hne : l ≠ [] := fun e => by subst e; rcases ht with h | h <;> exact absurd h (by decide)
              have h1 := weight_tail hne
              cases h
              have h3 : costP (.lit ⟨2, if (hdT l).t = trueW then 1 else 0, ⟨#[]⟩⟩) = (hdT l).t.length := by
                show (showV _).length = _
                rcases ht with ht | ht
                · rw [ht, if_pos rfl]; decide +kernel
                · rw [ht, if_neg (by decide)]; decide +kernel
              omega
            · split at h
              · rename_i hk
                have hne : l ≠ [] := fun e => by subst e; exact absurd hk.1 (by decide)
                have h1 := weight_tail hne
                split at h
                · cases h
                · split at h
                  · rename_i hq
                    have h2 := weight_tail (isW_ne hq (by decide))
                    split at h
                    · cases h
                    · have i1 : costP x + weightT r ≤ weightT l.tail.tail + ((hdT l).t.length + 2 + costsP [] + (if ([] : List Ex) = [] then 2 else 0)) := ih _ _ _ _ _ trivial h
                      rw [if_pos rfl, show costsP [] = 0 by unfold costsP; rfl] at i1
                      omega
                  · cases h
                    have h3 : costP (.name (hdT l).t (hdT l).p) = (hdT l).t.length := by conv => lhs; unfold costP
                    omega
              · cases h
theorem weight_lex : ∀ (n p : Nat) (s : List UInt8) (l : List Tok), lexX n p s = .ok l → s.length ≤ n → weightT l ≤ s.length * 9 + 8
  | n, p, [], l, h, _ => by
    unfold lexX at h
    cases h
    show 0 + 8 + 0 ≤ _
    omega
  | 0, p, c :: s, l, h, hl => absurd hl (by simp)
  | n + 1, p, c :: s, l, h, hl => by
    simp only [List.length_cons] at hl ⊢
    unfold lexX at h
    split at h
    · have := weight_lex n _ _ _ h (by omega)
      omega
    · cases ht : tokAt c s with
      | none => rw [ht] at h; cases h
      | some x =>
        obtain ⟨k, m⟩ := x
        rw [ht] at h
        simp only at h
        have hm := tokAt_len ht
        cases hr : lexX n (p + m) ((c :: s).drop m) with
        | error e => rw [hr] at h; cases h
        | ok l' =>
          rw [hr] at h
          cases h
          have ih := weight_lex n _ _ _ hr (by simp only [List.length_drop, List.length_cons]; omega)
          simp only [List.length_drop, List.length_cons] at ih
          show ((c :: s).take m).length + 8 + weightT l' ≤ _
          simp only [List.length_take, List.length_cons]
          omega
theorem text_cost {s : List UInt8} {x : Ex} (h : TextR true s (.ok x)) : costP x ≤ 2000 := by
  unfold TextR at h
  split at h
  · cases h
  · rename_i hs
    cases hx : lexX s.length 0 s with
    | error p => rw [hx] at h; cases h
    | ok l =>
      rw [hx] at h
      obtain ⟨q, ⟨n, hn⟩, h2⟩ := h
      have hw := weight_lex _ _ _ _ hx (Nat.le_refl _)
      unfold doneR at h2
      cases q with
      | error e => cases h2
      | ok y =>
        obtain ⟨y, r⟩ := y
        simp only at h2
        split at h2
        · cases h2
          have := parse_cost n _ 0 l x r trivial hn
          have h3 : costJ (topJ true) = 0 := rfl
          omega
        · cases h2
end Go.Proofs.YtgajofkeidjbgaaGreatDoor
