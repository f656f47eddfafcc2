/-
  PROVED HERE: in plain Lean: the trees that the parser makes are well formed; the parser uses only tokens it was given.
  PROVED HERE: in plain Lean: what an expression begins with, step by step; rows of tokens as cells.
-/
import Derived.Test.YtgajofkeidjbgaaGreatDoorGOrdTotal
import Derived.Test.YtgajofkeidjbgaaGreatDoorGExprPlain
import Derived.Test.YtgajofkeidjbgaaGreatDoorGParUn2
namespace Go.Proofs.YtgajofkeidjbgaaGreatDoor
set_option linter.unusedSimpArgs false
set_option linter.unusedVariables false
open Go Go.RowKit

theorem itoa_head {n : Int} {c : UInt8} {r : List UInt8} (h : Lib.itoa n = c :: r) : c = 45 ∨ (48 ≤ c.toNat ∧ c.toNat ≤ 57) := by
  unfold Lib.itoa at h
  split at h
  · left; cases h; rfl
  · right
    exact dec_digits n.toNat c (by rw [h]; simp)
/-- what a literal's text says of its value. -/
theorem read_first {c : UInt8} {r : List UInt8} {v : Val} (h : readP (c :: r) = some v) : validV v = true ∧ IntOk v ∧ (digitB c = true → v.k = 1) ∧ (c = 39 → v.k = 3) := by
  unfold readP at h
  split at h
  · rename_i hs
    have hv : guessP (c :: r) = v := Option.some.inj h
    have ho := guess_ok (c :: r)
    rw [hv] at hs ho
    have hval := show_ne (x := v) (by rw [hs]; simp)
    refine ⟨hval, ho, ?_⟩
    rcases valid_cases hval with rfl | ⟨hk, -⟩ | rfl | rfl | ⟨hx, -⟩
    · have : showV nothing = [110, 117, 108, 108] := by decide +kernel
      rw [this] at hs; cases hs
      exact ⟨fun h => absurd h (by decide), fun h => absurd h (by decide)⟩
    · rw [show_int hval hk] at hs
      refine ⟨fun _ => hk, fun hc => ?_⟩
      rcases itoa_head hs with h' | h'
      · rw [hc] at h'; exact absurd h' (by decide)
      · rw [hc] at h'; exact absurd h' (by decide)
    · have : showV ⟨2, 0, ByteArray.empty⟩ = [102, 97, 108, 115, 101] := by decide +kernel
      rw [this] at hs; cases hs
      exact ⟨fun h => absurd h (by decide), fun h => absurd h (by decide)⟩
    · have : showV ⟨2, 1, ByteArray.empty⟩ = [116, 114, 117, 101] := by decide +kernel
      rw [this] at hs; cases hs
      exact ⟨fun h => absurd h (by decide), fun h => absurd h (by decide)⟩
    · have hk : v.k = 3 := by rw [hx]; rfl
      rw [show_text hval hk] at hs
      unfold quoteL at hs
      cases hs
      exact ⟨fun h => absurd h (by decide), fun _ => hk⟩
  · cases h
theorem read_tok {t : Tok} (ht : TokOk t) (hk : t.k = 48 ∨ t.k = 39) {v : Val} (h : readP t.t = some v) : validV v = true ∧ IntOk v ∧ (v.k = 1 ∨ v.k = 2 ∨ v.k = 3) ∧ (t.k = 48 → v.k = 1) := by
  rcases ht with ⟨h1, _⟩ | ⟨h1, _⟩ | ⟨h1, c, r, h2, h3⟩ | ⟨h1, r, h2⟩ | ⟨h1, _⟩
  · rcases hk with e | e <;> rw [h1] at e <;> exact absurd e (by decide)
  · rcases hk with e | e <;> rw [h1] at e <;> exact absurd e (by decide)
  · rw [h2] at h
    have := read_first h
    exact ⟨this.1, this.2.1, .inl (this.2.2.1 h3), fun _ => this.2.2.1 h3⟩
  · rw [h2] at h
    have := read_first h
    exact ⟨this.1, this.2.1, .inr (.inr (this.2.2.2 rfl)), fun e => by rw [h1] at e; exact absurd e (by decide)⟩
  · rcases hk with e | e <;> rw [h1] at e <;> exact absurd e (by decide)
theorem exs_add : ∀ {l : List Ex} {x : Ex}, ExsOk l → ExOk x → ExsOk (l ++ [x])
  | [], _, _, hx => by show ExsOk [_]; unfold ExsOk; exact ⟨hx, by unfold ExsOk; trivial⟩
  | y :: l, x, h, hx => by
    unfold ExsOk at h
    show ExsOk (y :: (l ++ [x]))
    unfold ExsOk
    exact ⟨h.1, exs_add h.2 hx⟩
def JobOk : Job → Prop
  | .loop _ x => ExOk x
  | .cloop _ _ _ x => ExOk x
  | .args _ _ acc => ExsOk acc
  | _ => True
theorem lvl_op {L : Nat} {t : Tok} (h : (lvlOps L).any (isW t) = true) : t.t ∈ opsW := by
  rw [any_isW] at h
  simp only [Bool.and_eq_true, decide_eq_true_eq] at h
  have h1 := h.1
  revert h1
  match L with
  | 0 => exact fun h => by simp only [lvlOps, List.mem_cons, List.not_mem_nil, or_false] at h; simp [opsW, h]
  | 1 => exact fun h => by simp only [lvlOps, List.mem_cons, List.not_mem_nil, or_false] at h; simp [opsW, h]
  | 2 => exact fun h => by simp only [lvlOps, List.mem_cons, List.not_mem_nil, or_false] at h; rcases h with h | h | h | h | h | h <;> simp [opsW, h]
  | 3 => exact fun h => by simp only [lvlOps, List.mem_cons, List.not_mem_nil, or_false] at h; rcases h with h | h | h <;> simp [opsW, h]
  | 4 => exact fun h => by simp only [lvlOps, List.mem_cons, List.not_mem_nil, or_false] at h; rcases h with h | h | h <;> simp [opsW, h]
  | _ + 5 => exact fun h => by simp [lvlOps] at h
theorem tail_sub {l : List Tok} {t : Tok} (h : t ∈ l.tail) : t ∈ l := List.mem_of_mem_tail h
theorem hd_ok {l : List Tok} (h : ∀ t ∈ l, TokOk t) : TokOk (hdT l) ∨ hdT l = ⟨0, [], 0⟩ := by
  cases l with
  | nil => exact .inr rfl
  | cons t r => exact .inl (h t (by simp))
theorem parse_ok : ∀ (n : Nat) (j : Job) (d : Nat) (l : List Tok) (x : Ex) (r : List Tok), (∀ t ∈ l, TokOk t) → parseX true n j d l = some (.ok (x, r)) → JobOk j → ExOk x ∧ ∀ t ∈ r, t ∈ l
  | 0, _, _, _, _, _, _, h, _ => by unfold parseX at h; cases h
  | n + 1, j, d, l, x, r, hl, h, hj => by
    have ih := parse_ok n
    have htl : ∀ t ∈ l.tail, TokOk t := fun t ht => hl t (tail_sub ht)
    unfold parseX at h
    cases j with
    | climb q =>
      simp only at h
      split at h
      · split at h
        · cases h
        · cases hc : parseX true n (.climb 3) (d + 1) l.tail with
          | none => rw [hc] at h; cases h
          | some v =>
            rw [hc] at h
            cases v with
            | error e => cases h
            | ok y =>
              obtain ⟨y, r1⟩ := y
              have i1 := ih _ _ _ _ _ htl hc trivial
              have i2 := ih _ _ _ _ _ (fun t ht => htl t (i1.2 t ht)) h (show ExOk (.un false (hdT l).p y) by unfold ExOk; exact i1.1)
              exact ⟨i2.1, fun t ht => tail_sub (i1.2 t (i2.2 t ht))⟩
      · cases hc : parseX true n .un d l with
        | none => rw [hc] at h; cases h
        | some v =>
          rw [hc] at h
          cases v with
          | error e => cases h
          | ok y =>
            obtain ⟨y, r1⟩ := y
            have i1 := ih _ _ _ _ _ hl hc trivial
            have i2 := ih _ _ _ _ _ (fun t ht => hl t (i1.2 t ht)) h (show ExOk y from i1.1)
            exact ⟨i2.1, fun t ht => i1.2 t (i2.2 t ht)⟩
    | cloop q m f y0 =>
      simp only at h
      split at h
      · cases h; exact ⟨hj, fun t ht => ht⟩
      · rename_i hh
        have hop : (hdT l).t ∈ opsW := by
          have hp : powT (hdT l) ≠ 0 := fun e => hh (.inl e)
          have hv := powT_vals (hdT l)
          have : ∃ L, L < 5 ∧ powT (hdT l) = powL L := by
            rcases hv with h | h | h | h | h | h
            · exact absurd h hp
            · exact ⟨0, by omega, h⟩
            · exact ⟨1, by omega, h⟩
            · exact ⟨2, by omega, h⟩
            · exact ⟨3, by omega, h⟩
            · exact ⟨4, by omega, h⟩
          obtain ⟨L, hL, e⟩ := this
          exact lvl_op ((lvl_pow _ hL).2 e)
        cases hc : parseX true n (.climb (powT (hdT l) + 1)) d l.tail with
        | none => rw [hc] at h; cases h
        | some v =>
          rw [hc] at h
          cases v with
          | error e => cases h
          | ok y =>
            obtain ⟨y, r1⟩ := y
            have i1 := ih _ _ _ _ _ htl hc trivial
            have i2 := ih _ _ _ _ _ (fun t ht => htl t (i1.2 t ht)) h (show ExOk (.bin (hdT l).t (hdT l).p y0 y) by unfold ExOk; exact ⟨hop, hj, i1.1⟩)
            exact ⟨i2.1, fun t ht => tail_sub (i1.2 t (i2.2 t ht))⟩
    | bin L =>
      simp only at h
      split at h
      · exact ih _ _ _ _ _ hl h trivial
      · split at h
        · split at h
          · cases h
          · cases hc : parseX true n (.bin 2) (d + 1) l.tail with
            | none => rw [hc] at h; cases h
            | some v =>
              rw [hc] at h
              cases v with
              | error e => cases h
              | ok y =>
                obtain ⟨y, r1⟩ := y
                have i1 := ih _ _ _ _ _ htl hc trivial
                cases h
                exact ⟨by unfold ExOk; exact i1.1, fun t ht => tail_sub (i1.2 t ht)⟩
        · cases hc : parseX true n (.bin (L + 1)) d l with
          | none => rw [hc] at h; cases h
          | some v =>
            rw [hc] at h
            cases v with
            | error e => cases h
            | ok y =>
              obtain ⟨y, r1⟩ := y
              have i1 := ih _ _ _ _ _ hl hc trivial
              have i2 := ih _ _ _ _ _ (fun t ht => hl t (i1.2 t ht)) h (show ExOk y from i1.1)
              exact ⟨i2.1, fun t ht => i1.2 t (i2.2 t ht)⟩
    | loop L y0 =>
      simp only at h
      split at h
      · rename_i hop
        cases hc : parseX true n (.bin (L + 1)) d l.tail with
        | none => rw [hc] at h; cases h
        | some v =>
          rw [hc] at h
          cases v with
          | error e => cases h
          | ok y =>
            obtain ⟨y, r1⟩ := y
            have i1 := ih _ _ _ _ _ htl hc trivial
            have hx : ExOk (.bin (hdT l).t (hdT l).p y0 y) := by unfold ExOk; exact ⟨lvl_op hop, hj, i1.1⟩
            change (if L = 2 then PR.ok (Ex.bin (hdT l).t (hdT l).p y0 y, r1) else parseX true n (.loop L (.bin (hdT l).t (hdT l).p y0 y)) d r1) = some (.ok (x, r)) at h
            split at h
            · cases h
              exact ⟨hx, fun t ht => tail_sub (i1.2 t ht)⟩
            · have i2 := ih _ _ _ _ _ (fun t ht => htl t (i1.2 t ht)) h (show JobOk (.loop L (.bin (hdT l).t (hdT l).p y0 y)) from hx)
              exact ⟨i2.1, fun t ht => tail_sub (i1.2 t (i2.2 t ht))⟩
      · cases h; exact ⟨hj, fun t ht => ht⟩
    | args f p acc =>
      simp only at h
      split at h
      · cases h
        exact ⟨by unfold ExOk; exact hj, fun t ht => tail_sub ht⟩
      · split at h
        · cases h
        · cases hc : parseX true n (topJ true) d (if acc = [] then l else l.tail) with
          | none => rw [hc] at h; cases h
          | some v =>
            rw [hc] at h
            cases v with
            | error e => cases h
            | ok y =>
              obtain ⟨y, r1⟩ := y
              have hsub : ∀ t ∈ (if acc = [] then l else l.tail), t ∈ l := fun t ht => by
                split at ht
                · exact ht
                · exact tail_sub ht
              have i1 := ih _ _ _ _ _ (fun t ht => hl t (hsub t ht)) hc trivial
              have i2 := ih _ _ _ _ _ (fun t ht => hl t (hsub t (i1.2 t ht))) h (show JobOk (.args f p (acc ++ [y])) from exs_add hj i1.1)
              exact ⟨i2.1, fun t ht => hsub t (i1.2 t (i2.2 t ht))⟩
    | un =>
      simp only at h
      split at h
      · split at h
        · cases h
        · cases hc : parseX true n .un (d + 1) l.tail with
          | none => rw [hc] at h; cases h
          | some v =>
            rw [hc] at h
            cases v with
            | error e => cases h
            | ok y =>
              obtain ⟨y, r1⟩ := y
              have i1 := ih _ _ _ _ _ htl hc trivial
              cases h
              exact ⟨by unfold ExOk; exact i1.1, fun t ht => tail_sub (i1.2 t ht)⟩
      · split at h
        · split at h
          · cases h
          · cases hc : parseX true n (topJ true) (d + 1) l.tail with
            | none => rw [hc] at h; cases h
            | some v =>
              rw [hc] at h
              cases v with
              | error e => cases h
              | ok y =>
                obtain ⟨y, r1⟩ := y
                have i1 := ih _ _ _ _ _ htl hc trivial
                change (if isW (hdT r1) closeW = true then PR.ok (y, r1.tail) else PR.err 1 (hdT r1).p) = some (.ok (x, r)) at h
                split at h
                · cases h
                  exact ⟨i1.1, fun t ht => tail_sub (i1.2 t (tail_sub ht))⟩
                · cases h
        · split at h
          · rename_i hk
            rcases hd_ok hl with ho | ho
            · cases hr : readP (hdT l).t with
              | none => rw [hr] at h; cases h
              | some v =>
                rw [hr] at h
                cases h
                have := read_tok ho hk hr
                exact ⟨by unfold ExOk; exact ⟨this.1, this.2.1, this.2.2.1⟩, fun t ht => tail_sub ht⟩
            · rw [ho] at hk
              rcases hk with e | e <;> exact absurd e (by decide)
          · split at h
            · cases h
              refine ⟨?_, fun t ht => tail_sub ht⟩
              unfold ExOk
              split
              · exact ⟨by decide +kernel, by unfold IntOk; simp, .inr (.inl rfl)⟩
              · exact ⟨by decide +kernel, by unfold IntOk; simp, .inr (.inl rfl)⟩
            · split at h
              · split at h
                · cases h
                · split at h
                  · split at h
                    · cases h
                    · have i1 := ih _ _ _ _ _ (fun t ht => htl t (tail_sub ht)) h (show JobOk (.args (hdT l).t (hdT l).p []) by show ExsOk []; unfold ExsOk; trivial)
                      exact ⟨i1.1, fun t ht => tail_sub (tail_sub (i1.2 t ht))⟩
                  · cases h
                    exact ⟨by unfold ExOk; trivial, fun t ht => tail_sub ht⟩
              · cases h
end Go.Proofs.YtgajofkeidjbgaaGreatDoor
namespace Go.Proofs.YtgajofkeidjbgaaGreatDoor
set_option linter.unusedSimpArgs false
set_option linter.unusedVariables false
open Go Go.RowKit

theorem isW_k {t : Tok} {x : List UInt8} (h : t.k ≠ 111) (h' : t.k ≠ 110) : isW t x = false := by
  unfold isW
  rw [Bool.and_eq_false_iff]
  right
  simp [h, h']
theorem par_lit {d : Nat} {t : Tok} {r : List Tok} {v : Val} (hk : t.k = 48 ∨ t.k = 39) (hr : readP t.t = some v) : Par true .un d (t :: r) (.ok (.lit v, r)) := by
  have hw : ∀ x, isW t x = false := fun x => by rcases hk with h | h <;> exact isW_k (by rw [h]; decide) (by rw [h]; decide)
  have h1 : ¬ isW (hdT (t :: r)) minusW = true := by show ¬ isW t minusW = true; rw [hw]; simp
  have h2 : ¬ isW (hdT (t :: r)) openW = true := by show ¬ isW t openW = true; rw [hw]; simp
  have h3 : (hdT (t :: r)).k = 48 ∨ (hdT (t :: r)).k = 39 := hk
  have h4 : readP (hdT (t :: r)).t = some v := hr
  exact ⟨1, by unfold parseX; rw [if_neg h1, if_neg h2, if_pos h3, h4]; rfl⟩
theorem par_lit_bad {d : Nat} {t : Tok} {r : List Tok} (hk : t.k = 48 ∨ t.k = 39) (hr : readP t.t = none) : Par true .un d (t :: r) (.error (1, t.p)) := by
  have hw : ∀ x, isW t x = false := fun x => by rcases hk with h | h <;> exact isW_k (by rw [h]; decide) (by rw [h]; decide)
  have h1 : ¬ isW (hdT (t :: r)) minusW = true := by show ¬ isW t minusW = true; rw [hw]; simp
  have h2 : ¬ isW (hdT (t :: r)) openW = true := by show ¬ isW t openW = true; rw [hw]; simp
  have h3 : (hdT (t :: r)).k = 48 ∨ (hdT (t :: r)).k = 39 := hk
  have h4 : readP (hdT (t :: r)).t = none := hr
  exact ⟨1, by unfold parseX; rw [if_neg h1, if_neg h2, if_pos h3, h4]; rfl⟩
theorem isW_t {t : Tok} {x : List UInt8} (h : t.t ≠ x) : isW t x = false := by
  unfold isW
  rw [Bool.and_eq_false_iff]
  left
  simp [h]
theorem par_bool {d : Nat} {t : Tok} {r : List Tok} (hk : ¬ (t.k = 48 ∨ t.k = 39)) (ht : t.t = trueW ∨ t.t = falseW) : Par true .un d (t :: r) (.ok (.lit ⟨2, if t.t = trueW then 1 else 0, ⟨#[]⟩⟩, r)) := by
  have hw : ∀ x, x ≠ trueW → x ≠ falseW → isW t x = false := fun x g1 g2 => isW_t (ht.elim (fun h => by rw [h]; exact g1.symm) (fun h => by rw [h]; exact g2.symm))
  have h1 : ¬ isW (hdT (t :: r)) minusW = true := by show ¬ isW t minusW = true; rw [hw _ (by decide) (by decide)]; simp
  have h2 : ¬ isW (hdT (t :: r)) openW = true := by show ¬ isW t openW = true; rw [hw _ (by decide) (by decide)]; simp
  have h3 : ¬ ((hdT (t :: r)).k = 48 ∨ (hdT (t :: r)).k = 39) := hk
  have h4 : (hdT (t :: r)).t = trueW ∨ (hdT (t :: r)).t = falseW := ht
  exact ⟨1, by unfold parseX; rw [if_neg h1, if_neg h2, if_neg h3, if_pos h4]; rfl⟩
/-- a token that is a name. -/
def IsName (t : Tok) : Prop := t.k = 110 ∧ t.t ∉ wordsW
theorem IsName.facts {t : Tok} (hn : IsName t) (ho : TokOk t) : isW t minusW = false ∧ isW t openW = false ∧ ¬ (t.k = 48 ∨ t.k = 39) ∧ ¬ (t.t = trueW ∨ t.t = falseW) := by
  have ht : ∀ x ∈ signsW, isW t x = false := fun x hx => by
    rw [tok_sign ho hx, hn.1]
    simp
  refine ⟨ht _ (by decide), ht _ (by decide), ?_, ?_⟩
  · rw [hn.1]; decide
  · rintro (h | h)
    · exact hn.2 (by rw [h]; decide)
    · exact hn.2 (by rw [h]; decide)
theorem par_long {d : Nat} {t : Tok} {r : List Tok} (hn : IsName t) (ho : TokOk t) (hl : 12 < t.t.length) : Par true .un d (t :: r) (.error (4, t.p)) := by
  obtain ⟨f1, f2, f3, f4⟩ := hn.facts ho
  have h1 : ¬ isW (hdT (t :: r)) minusW = true := by show ¬ isW t minusW = true; rw [f1]; simp
  have h2 : ¬ isW (hdT (t :: r)) openW = true := by show ¬ isW t openW = true; rw [f2]; simp
  have h3 : ¬ ((hdT (t :: r)).k = 48 ∨ (hdT (t :: r)).k = 39) := f3
  have h4 : ¬ ((hdT (t :: r)).t = trueW ∨ (hdT (t :: r)).t = falseW) := f4
  have h5 : (hdT (t :: r)).k = 110 ∧ (hdT (t :: r)).t ∉ wordsW := hn
  have h6 : 12 < (hdT (t :: r)).t.length := hl
  exact ⟨1, by unfold parseX; rw [if_neg h1, if_neg h2, if_neg h3, if_neg h4, if_pos h5, if_pos h6]; rfl⟩
theorem par_name {d : Nat} {t : Tok} {r : List Tok} (hn : IsName t) (ho : TokOk t) (hl : ¬ 12 < t.t.length) (hq : isW (hdT r) openW = false) : Par true .un d (t :: r) (.ok (.name t.t t.p, r)) := by
  obtain ⟨f1, f2, f3, f4⟩ := hn.facts ho
  have h1 : ¬ isW (hdT (t :: r)) minusW = true := by show ¬ isW t minusW = true; rw [f1]; simp
  have h2 : ¬ isW (hdT (t :: r)) openW = true := by show ¬ isW t openW = true; rw [f2]; simp
  have h3 : ¬ ((hdT (t :: r)).k = 48 ∨ (hdT (t :: r)).k = 39) := f3
  have h4 : ¬ ((hdT (t :: r)).t = trueW ∨ (hdT (t :: r)).t = falseW) := f4
  have h5 : (hdT (t :: r)).k = 110 ∧ (hdT (t :: r)).t ∉ wordsW := hn
  have h6 : ¬ 12 < (hdT (t :: r)).t.length := hl
  have h7 : ¬ isW (hdT (t :: r).tail) openW = true := by show ¬ isW (hdT r) openW = true; rw [hq]; simp
  exact ⟨1, by unfold parseX; rw [if_neg h1, if_neg h2, if_neg h3, if_neg h4, if_pos h5, if_neg h6, if_neg h7]; rfl⟩
theorem par_callq {d : Nat} {t u : Tok} {r : List Tok} {s : Res} (hn : IsName t) (ho : TokOk t) (hl : ¬ 12 < t.t.length) (hq : isW u openW = true) (hs : if 12 < d + 1 then s = .error (4, u.p) else Par true (.args t.t t.p []) (d + 1) r s) : Par true .un d (t :: u :: r) s := by
  obtain ⟨f1, f2, f3, f4⟩ := hn.facts ho
  have h1 : ¬ isW (hdT (t :: u :: r)) minusW = true := by show ¬ isW t minusW = true; rw [f1]; simp
  have h2 : ¬ isW (hdT (t :: u :: r)) openW = true := by show ¬ isW t openW = true; rw [f2]; simp
  have h3 : ¬ ((hdT (t :: u :: r)).k = 48 ∨ (hdT (t :: u :: r)).k = 39) := f3
  have h4 : ¬ ((hdT (t :: u :: r)).t = trueW ∨ (hdT (t :: u :: r)).t = falseW) := f4
  have h5 : (hdT (t :: u :: r)).k = 110 ∧ (hdT (t :: u :: r)).t ∉ wordsW := hn
  have h6 : ¬ 12 < (hdT (t :: u :: r)).t.length := hl
  have h7 : isW (hdT (t :: u :: r).tail) openW = true := hq
  by_cases hd : 12 < d + 1
  · rw [if_pos hd] at hs
    subst hs
    exact ⟨1, by unfold parseX; rw [if_neg h1, if_neg h2, if_neg h3, if_neg h4, if_pos h5, if_neg h6, if_pos h7, if_pos hd]; rfl⟩
  · rw [if_neg hd] at hs
    obtain ⟨n, hn⟩ := hs
    exact ⟨n + 1, by unfold parseX; rw [if_neg h1, if_neg h2, if_neg h3, if_neg h4, if_pos h5, if_neg h6, if_pos h7, if_neg hd]; exact hn⟩
theorem par_brackets {d : Nat} {t : Tok} {r : List Tok} {s : Res} (ht : isW t openW = true) (hs : if 12 < d + 1 then s = .error (4, t.p) else ∃ s', Par true (.bin 0) (d + 1) r s' ∧ s = closeR s') : Par true .un d (t :: r) s := by
  have h1 : ¬ isW (hdT (t :: r)) minusW = true := by
    show ¬ isW t minusW = true
    intro h
    unfold isW at h ht
    simp only [Bool.and_eq_true, beq_iff_eq] at h ht
    rw [ht.1] at h
    exact absurd h.1 (by decide)
  have h2 : isW (hdT (t :: r)) openW = true := ht
  by_cases hd : 12 < d + 1
  · rw [if_pos hd] at hs
    subst hs
    exact ⟨1, by unfold parseX; rw [if_neg h1, if_pos h2, if_pos hd]; rfl⟩
  · rw [if_neg hd] at hs
    obtain ⟨s', ⟨n, hn⟩, rfl⟩ := hs
    refine ⟨n + 1, ?_⟩
    unfold parseX
    rw [if_neg h1, if_pos h2, if_neg hd, show (t :: r).tail = r from rfl, show topJ true = .bin 0 from rfl, hn]
    cases s' with
    | error e => rfl
    | ok x =>
      show (if isW (hdT x.2) closeW = true then PR.ok (x.1, x.2.tail) else PR.err 1 (hdT x.2).p) = some (closeR (.ok x))
      unfold closeR
      simp only
      split <;> rfl
theorem par_none {d : Nat} {t : Tok} {r : List Tok} (h1 : isW t minusW = false) (h2 : isW t openW = false) (h3 : ¬ (t.k = 48 ∨ t.k = 39)) (h4 : ¬ (t.t = trueW ∨ t.t = falseW)) (h5 : ¬ IsName t) : Par true .un d (t :: r) (.error (1, t.p)) := by
  have g1 : ¬ isW (hdT (t :: r)) minusW = true := by show ¬ isW t minusW = true; rw [h1]; simp
  have g2 : ¬ isW (hdT (t :: r)) openW = true := by show ¬ isW t openW = true; rw [h2]; simp
  have g3 : ¬ ((hdT (t :: r)).k = 48 ∨ (hdT (t :: r)).k = 39) := h3
  have g4 : ¬ ((hdT (t :: r)).t = trueW ∨ (hdT (t :: r)).t = falseW) := h4
  have g5 : ¬ ((hdT (t :: r)).k = 110 ∧ (hdT (t :: r)).t ∉ wordsW) := h5
  exact ⟨1, by unfold parseX; rw [if_neg g1, if_neg g2, if_neg g3, if_neg g4, if_neg g5]; rfl⟩
theorem tok_open {t : Tok} (h : TokOk t) : isW t openW = decide (t.t = openW) := by
  by_cases ht : t.t = openW
  · have hk : t.k = 111 := by
      rcases h with ⟨_, h2⟩ | ⟨_, c, r, h2, h3⟩ | ⟨_, c, r, h2, h3⟩ | ⟨_, r, h2⟩ | ⟨h1, _⟩
      · rw [ht] at h2; cases h2
      · rw [ht] at h2; cases h2; exact absurd h3 (by decide)
      · rw [ht] at h2; cases h2; exact absurd h3 (by decide)
      · rw [ht] at h2; cases h2
      · exact h1
    unfold isW
    simp [ht, hk]
  · rw [isW_t ht]; simp [ht]
/-! rows of tokens -/
theorem tokCells_split : ∀ (l : List Tok) (j : Nat) (u : Value), (tokCells l)[j]? = some u → ∃ i, ∃ h : i < l.length, ∃ c, c < 3 ∧ j = i * 3 + c ∧ (l[i].cells)[c]? = some u
  | [], j, u, h => by simp [tokCells] at h
  | t :: l, j, u, h => by
    have e : tokCells (t :: l) = t.cells ++ tokCells l := by simp [tokCells]
    rw [e] at h
    by_cases hj : j < 3
    · refine ⟨0, by simp, j, hj, by omega, ?_⟩
      rw [List.getElem?_append_left (by show j < 3; exact hj)] at h
      exact h
    · rw [List.getElem?_append_right (by show 3 ≤ j; omega)] at h
      obtain ⟨i, hi, c, hc, hjc, hu⟩ := tokCells_split l (j - 3) u h
      exact ⟨i + 1, by simp only [List.length_cons]; omega, c, hc, by omega, hu⟩
theorem tokCells_at : ∀ (l : List Tok) (i : Nat) (h : i < l.length) (c : Nat), c < 3 → (tokCells l)[i * 3 + c]? = (l[i].cells)[c]?
  | [], i, h, _, _ => absurd h (by simp)
  | t :: l, i, h, c, hc => by
    have e : tokCells (t :: l) = t.cells ++ tokCells l := by simp [tokCells]
    rw [e]
    cases i with
    | zero =>
      rw [List.getElem?_append_left (by show 0 * 3 + c < 3; omega)]
      simp
    | succ i =>
      rw [List.getElem?_append_right (by show 3 ≤ (i + 1) * 3 + c; omega)]
      have : (i + 1) * 3 + c - (t.cells).length = i * 3 + c := by show (i + 1) * 3 + c - 3 = _; omega
      rw [this, tokCells_at l i (by simpa using h) c hc]
      simp
theorem tokCells_len (l : List Tok) : (tokCells l).length = l.length * 3 := by
  induction l with
  | nil => rfl
  | cons t l ih =>
    have e : tokCells (t :: l) = t.cells ++ tokCells l := by simp [tokCells]
    rw [e, List.length_append, ih]
    show 3 + l.length * 3 = (l.length + 1) * 3
    omega
theorem toks_of_own {w : World} {B P : Nat} {v : Value} {l : List Tok} (h : w.ownsRow B 102 3 v l.length (tokCells l)) (hP : ∀ g, v.ownBlock = some g → g ≠ P) : ToksOf P w v l := by
  rcases h.2 with ⟨hv, h0⟩ | ⟨g, cap, cur, hv, hb, hg, hnc, hcm, hcs, htake⟩
  · have hl : l = [] := List.eq_nil_of_length_eq_zero h0
    subst hl
    refine ⟨⟨none, 0, hv, Nat.le_refl _, by unfold maxLen; omega, fun _ => rfl, fun i hi => absurd hi (by simp)⟩, fun g o n c e => ?_⟩
    rw [hv] at e; cases e
  · have hne := hP g (by rw [hv]; rfl)
    have hc := h.cells (g := g) (by rw [hv]; rfl)
    refine ⟨⟨some ⟨g, 0, none⟩, cap, hv, hnc, hcm, (fun e => by cases e), fun i hi => ⟨g, 0, rfl, hne, ?_⟩⟩, fun g' o n c e => ?_⟩
    · have at_ : ∀ c u, c < 3 → (l[i].cells)[c]? = some u → w.cell? ⟨g, 0 + i * 3 + c, none⟩ = some u := fun c u h3 hu => by
        have := hc (i * 3 + c) u (by rw [tokCells_at l i hi c h3]; exact hu)
        rw [add_none rfl] at this
        rw [Nat.zero_add]
        simpa using this
      exact ⟨at_ 0 _ (by omega) rfl, at_ 1 _ (by omega) rfl, at_ 2 _ (by omega) rfl⟩
    · rw [hv] at e
      simp only [Value.slice.injEq, Option.some.injEq, Addr.mk.injEq] at e
      obtain ⟨⟨rfl, -, -⟩, -, -⟩ := e
      exact ⟨hne, _, _, hg⟩
theorem toks_cells {P : Nat} {w : World} {g o n c : Nat} {l : List Tok} (h : ToksOf P w (.slice (some ⟨g, o, none⟩) n c) l) : n = l.length ∧ l.length ≤ c ∧ ∀ j u, (tokCells l)[j]? = some u → w.cell? ((⟨g, o, none⟩ : Addr).add j) = some u := by
  obtain ⟨⟨a, c', hv, hl, hc, hn, he⟩, -⟩ := h
  simp only [Value.slice.injEq] at hv
  obtain ⟨rfl, rfl, rfl⟩ := hv
  refine ⟨rfl, hl, fun j u hj => ?_⟩
  obtain ⟨i, hi, k, hk, rfl, hu⟩ := tokCells_split l j u hj
  obtain ⟨b, o', hb, -, h0, h1, h2⟩ := he i hi
  simp only [Option.some.injEq, Addr.mk.injEq] at hb
  obtain ⟨rfl, rfl, -⟩ := hb
  rw [add_none rfl]
  match k, hk with
  | 0, _ => have : some _ = some u := hu; cases this; simpa [Nat.add_assoc] using h0
  | 1, _ => have : some _ = some u := hu; cases this; simpa [Nat.add_assoc] using h1
  | 2, _ => have : some _ = some u := hu; cases this; simpa [Nat.add_assoc] using h2
end Go.Proofs.YtgajofkeidjbgaaGreatDoor
