/-
  PROVED HERE: in plain Lean: the trees that the parser makes are well formed; the parser uses only tokens it was given.
-/
import Derived.Test.YtgajofkeidjbgaaGreatDoorGOrdTotal
import Derived.Test.YtgajofkeidjbgaaGreatDoorGLexPlain
namespace Go.Proofs.YtgajofkeidjbgaaGreatDoor
set_option linter.unusedSimpArgs false
set_option linter.unusedVariables false
open Go Go.RowKit

theorem itoa_head {n : Int} {c : UInt8} {r : List UInt8} (h : Lib.itoa n = c :: r) : c = 45 ∨ (48 ≤ c.toNat ∧ c.toNat ≤ 57) := by
  unfold Lib.itoa at h
  split at h
  · left; cases h; rfl
  · right
    exact dec_digits n.toNat c (by rw [h]; simp)
/-- what a literal's text says of its value. -/
theorem read_first {c : UInt8} {r : List UInt8} {v : Val} (h : readP (c :: r) = some v) : validV v = true ∧ IntOk v ∧ (digitB c = true → v.k = 1) ∧ (c = 39 → v.k = 3) := by
  unfold readP at h
  split at h
  · rename_i hs
    have hv : guessP (c :: r) = v := Option.some.inj h
    have ho := guess_ok (c :: r)
    rw [hv] at hs ho
    have hval := show_ne (x := v) (by rw [hs]; simp)
    refine ⟨hval, ho, ?_⟩
    rcases valid_cases hval with rfl | ⟨hk, -⟩ | rfl | rfl | ⟨hx, -⟩
    · have : showV nothing = [110, 117, 108, 108] := by decide +kernel
      rw [this] at hs; cases hs
      exact ⟨fun h => absurd h (by decide), fun h => absurd h (by decide)⟩
    · rw [show_int hval hk] at hs
      refine ⟨fun _ => hk, fun hc => ?_⟩
      rcases itoa_head hs with h' | h'
      · rw [hc] at h'; exact absurd h' (by decide)
      · rw [hc] at h'; exact absurd h' (by decide)
    · have : showV ⟨2, 0, ByteArray.empty⟩ = [102, 97, 108, 115, 101] := by decide +kernel
      rw [this] at hs; cases hs
      exact ⟨fun h => absurd h (by decide), fun h => absurd h (by decide)⟩
    · have : showV ⟨2, 1, ByteArray.empty⟩ = [116, 114, 117, 101] := by decide +kernel
      rw [this] at hs; cases hs
      exact ⟨fun h => absurd h (by decide), fun h => absurd h (by decide)⟩
    · have hk : v.k = 3 := by rw [hx]; rfl
      rw [show_text hval hk] at hs
      unfold quoteL at hs
      cases hs
      exact ⟨fun h => absurd h (by decide), fun _ => hk⟩
  · cases h
theorem read_tok {t : Tok} (ht : TokOk t) (hk : t.k = 48 ∨ t.k = 39) {v : Val} (h : readP t.t = some v) : validV v = true ∧ IntOk v ∧ (v.k = 1 ∨ v.k = 2 ∨ v.k = 3) ∧ (t.k = 48 → v.k = 1) := by
  rcases ht with ⟨h1, _⟩ | ⟨h1, _⟩ | ⟨h1, c, r, h2, h3⟩ | ⟨h1, r, h2⟩ | ⟨h1, _⟩
  · rcases hk with e | e <;> rw [h1] at e <;> exact absurd e (by decide)
  · rcases hk with e | e <;> rw [h1] at e <;> exact absurd e (by decide)
  · rw [h2] at h
    have := read_first h
    exact ⟨this.1, this.2.1, .inl (this.2.2.1 h3), fun _ => this.2.2.1 h3⟩
  · rw [h2] at h
    have := read_first h
    exact ⟨this.1, this.2.1, .inr (.inr (this.2.2.2 rfl)), fun e => by rw [h1] at e; exact absurd e (by decide)⟩
  · rcases hk with e | e <;> rw [h1] at e <;> exact absurd e (by decide)
theorem exs_add : ∀ {l : List Ex} {x : Ex}, ExsOk l → ExOk x → ExsOk (l ++ [x])
  | [], _, _, hx => by show ExsOk [_]; unfold ExsOk; exact ⟨hx, by unfold ExsOk; trivial⟩
  | y :: l, x, h, hx => by
    unfold ExsOk at h
    show ExsOk (y :: (l ++ [x]))
    unfold ExsOk
    exact ⟨h.1, exs_add h.2 hx⟩
def JobOk : Job → Prop
  | .loop _ x => ExOk x
  | .cloop _ _ _ x => ExOk x
  | .args _ _ acc => ExsOk acc
  | _ => True
theorem lvl_op {L : Nat} {t : Tok} (h : (lvlOps L).any (isW t) = true) : t.t ∈ opsW := by
  rw [any_isW] at h
  simp only [Bool.and_eq_true, decide_eq_true_eq] at h
  have h1 := h.1
  revert h1
  match L with
  | 0 => exact fun h => by simp only [lvlOps, List.mem_cons, List.not_mem_nil, or_false] at h; simp [opsW, h]
  | 1 => exact fun h => by simp only [lvlOps, List.mem_cons, List.not_mem_nil, or_false] at h; simp [opsW, h]
  | 2 => exact fun h => by simp only [lvlOps, List.mem_cons, List.not_mem_nil, or_false] at h; rcases h with h | h | h | h | h | h <;> simp [opsW, h]
  | 3 => exact fun h => by simp only [lvlOps, List.mem_cons, List.not_mem_nil, or_false] at h; rcases h with h | h | h <;> simp [opsW, h]
  | 4 => exact fun h => by simp only [lvlOps, List.mem_cons, List.not_mem_nil, or_false] at h; rcases h with h | h | h <;> simp [opsW, h]
  | _ + 5 => exact fun h => by simp [lvlOps] at h
theorem tail_sub {l : List Tok} {t : Tok} (h : t ∈ l.tail) : t ∈ l := List.mem_of_mem_tail h
theorem hd_ok {l : List Tok} (h : ∀ t ∈ l, TokOk t) : TokOk (hdT l) ∨ hdT l = ⟨0, [], 0⟩ := by
  cases l with
  | nil => exact .inr rfl
  | cons t r => exact .inl (h t (by simp))
theorem parse_ok : ∀ (n : Nat) (j : Job) (d : Nat) (l : List Tok) (x : Ex) (r : List Tok), (∀ t ∈ l, TokOk t) → parseX true n j d l = some (.ok (x, r)) → JobOk j → ExOk x ∧ ∀ t ∈ r, t ∈ l
  | 0, _, _, _, _, _, _, h, _ => by unfold parseX at h; cases h
  | n + 1, j, d, l, x, r, hl, h, hj => by
    have ih := parse_ok n
    have htl : ∀ t ∈ l.tail, TokOk t := fun t ht => hl t (tail_sub ht)
    unfold parseX at h
    cases j with
    | climb q =>
      simp only at h
      split at h
      · split at h
        · cases h
        · cases hc : parseX true n (.climb 3) (d + 1) l.tail with
          | none => rw [hc] at h; cases h
          | some v =>
            rw [hc] at h
            cases v with
            | error e => cases h
            | ok y =>
              obtain ⟨y, r1⟩ := y
              have i1 := ih _ _ _ _ _ htl hc trivial
              have i2 := ih _ _ _ _ _ (fun t ht => htl t (i1.2 t ht)) h (show ExOk (.un false (hdT l).p y) by unfold ExOk; exact i1.1)
              exact ⟨i2.1, fun t ht => tail_sub (i1.2 t (i2.2 t ht))⟩
      · cases hc : parseX true n .un d l with
        | none => rw [hc] at h; cases h
        | some v =>
          rw [hc] at h
          cases v with
          | error e => cases h
          | ok y =>
            obtain ⟨y, r1⟩ := y
            have i1 := ih _ _ _ _ _ hl hc trivial
            have i2 := ih _ _ _ _ _ (fun t ht => hl t (i1.2 t ht)) h (show ExOk y from i1.1)
            exact ⟨i2.1, fun t ht => i1.2 t (i2.2 t ht)⟩
    | cloop q m f y0 =>
      simp only at h
      split at h
      · cases h; exact ⟨hj, fun t ht => ht⟩
      · rename_i hh
        have hop : (hdT l).t ∈ opsW := by
          have hp : powT (hdT l) ≠ 0 := fun e => hh (.inl e)
          have hv := powT_vals (hdT l)
          have : ∃ L, L < 5 ∧ powT (hdT l) = powL L := by
            rcases hv with h | h | h | h | h | h
            · exact absurd h hp
            · exact ⟨0, by omega, h⟩
            · exact ⟨1, by omega, h⟩
            · exact ⟨2, by omega, h⟩
            · exact ⟨3, by omega, h⟩
            · exact ⟨4, by omega, h⟩
          obtain ⟨L, hL, e⟩ := this
          exact lvl_op ((lvl_pow _ hL).2 e)
        cases hc : parseX true n (.climb (powT (hdT l) + 1)) d l.tail with
        | none => rw [hc] at h; cases h
        | some v =>
          rw [hc] at h
          cases v with
          | error e => cases h
          | ok y =>
            obtain ⟨y, r1⟩ := y
            have i1 := ih _ _ _ _ _ htl hc trivial
            have i2 := ih _ _ _ _ _ (fun t ht => htl t (i1.2 t ht)) h (show ExOk (.bin (hdT l).t (hdT l).p y0 y) by unfold ExOk; exact ⟨hop, hj, i1.1⟩)
            exact ⟨i2.1, fun t ht => tail_sub (i1.2 t (i2.2 t ht))⟩
    | bin L =>
      simp only at h
      split at h
      · exact ih _ _ _ _ _ hl h trivial
      · split at h
        · split at h
          · cases h
          · cases hc : parseX true n (.bin 2) (d + 1) l.tail with
            | none => rw [hc] at h; cases h
            | some v =>
              rw [hc] at h
              cases v with
              | error e => cases h
              | ok y =>
                obtain ⟨y, r1⟩ := y
                have i1 := ih _ _ _ _ _ htl hc trivial
                cases h
                exact ⟨by unfold ExOk; exact i1.1, fun t ht => tail_sub (i1.2 t ht)⟩
        · cases hc : parseX true n (.bin (L + 1)) d l with
          | none => rw [hc] at h; cases h
          | some v =>
            rw [hc] at h
            cases v with
            | error e => cases h
            | ok y =>
              obtain ⟨y, r1⟩ := y
              have i1 := ih _ _ _ _ _ hl hc trivial
              have i2 := ih _ _ _ _ _ (fun t ht => hl t (i1.2 t ht)) h (show ExOk y from i1.1)
              exact ⟨i2.1, fun t ht => i1.2 t (i2.2 t ht)⟩
    | loop L y0 =>
      simp only at h
      split at h
      · rename_i hop
        cases hc : parseX true n (.bin (L + 1)) d l.tail with
        | none => rw [hc] at h; cases h
        | some v =>
          rw [hc] at h
          cases v with
          | error e => cases h
          | ok y =>
            obtain ⟨y, r1⟩ := y
            have i1 := ih _ _ _ _ _ htl hc trivial
            have hx : ExOk (.bin (hdT l).t (hdT l).p y0 y) := by unfold ExOk; exact ⟨lvl_op hop, hj, i1.1⟩
            change (if L = 2 then PR.ok (Ex.bin (hdT l).t (hdT l).p y0 y, r1) else parseX true n (.loop L (.bin (hdT l).t (hdT l).p y0 y)) d r1) = some (.ok (x, r)) at h
            split at h
            · cases h
              exact ⟨hx, fun t ht => tail_sub (i1.2 t ht)⟩
            · have i2 := ih _ _ _ _ _ (fun t ht => htl t (i1.2 t ht)) h (show JobOk (.loop L (.bin (hdT l).t (hdT l).p y0 y)) from hx)
              exact ⟨i2.1, fun t ht => tail_sub (i1.2 t (i2.2 t ht))⟩
      · cases h; exact ⟨hj, fun t ht => ht⟩
    | args f p acc =>
      simp only at h
      split at h
      · cases h
        exact ⟨by unfold ExOk; exact hj, fun t ht => tail_sub ht⟩
      · split at h
        · cases h
        · cases hc : parseX true n (topJ true) d (if acc = [] then l else l.tail) with
          | none => rw [hc] at h; cases h
          | some v =>
            rw [hc] at h
            cases v with
            | error e => cases h
            | ok y =>
              obtain ⟨y, r1⟩ := y
              have hsub : ∀ t ∈ (if acc = [] then l else l.tail), t ∈ l := fun t ht => by
                split at ht
                · exact ht
                · exact tail_sub ht
              have i1 := ih _ _ _ _ _ (fun t ht => hl t (hsub t ht)) hc trivial
              have i2 := ih _ _ _ _ _ (fun t ht => hl t (hsub t (i1.2 t ht))) h (show JobOk (.args f p (acc ++ [y])) from exs_add hj i1.1)
              exact ⟨i2.1, fun t ht => hsub t (i1.2 t (i2.2 t ht))⟩
    | un =>
      simp only at h
      split at h
      · split at h
        · cases h
        · cases hc : parseX true n .un (d + 1) l.tail with
          | none => rw [hc] at h; cases h
          | some v =>
            rw [hc] at h
            cases v with
            | error e => cases h
            | ok y =>
              obtain ⟨y, r1⟩ := y
              have i1 := ih _ _ _ _ _ htl hc trivial
              cases h
              exact ⟨by unfold ExOk; exact i1.1, fun t ht => tail_sub (i1.2 t ht)⟩
      · split at h
        · split at h
          · cases h
          · cases hc : parseX true n (topJ true) (d + 1) l.tail with
            | none => rw [hc] at h; cases h
            | some v =>
              rw [hc] at h
              cases v with
              | error e => cases h
              | ok y =>
                obtain ⟨y, r1⟩ := y
                have i1 := ih _ _ _ _ _ htl hc trivial
                change (if isW (hdT r1) closeW = true then PR.ok (y, r1.tail) else PR.err 1 (hdT r1).p) = some (.ok (x, r)) at h
                split at h
                · cases h
                  exact ⟨i1.1, fun t ht => tail_sub (i1.2 t (tail_sub ht))⟩
                · cases h
        · split at h
          · rename_i hk
            rcases hd_ok hl with ho | ho
            · cases hr : readP (hdT l).t with
              | none => rw [hr] at h; cases h
              | some v =>
                rw [hr] at h
                cases h
                have := read_tok ho hk hr
                exact ⟨by unfold ExOk; exact ⟨this.1, this.2.1, this.2.2.1⟩, fun t ht => tail_sub ht⟩
            · rw [ho] at hk
              rcases hk with e | e <;> exact absurd e (by decide)
          · split at h
            · cases h
              refine ⟨?_, fun t ht => tail_sub ht⟩
              unfold ExOk
              split
              · exact ⟨by decide +kernel, by unfold IntOk; simp, .inr (.inl rfl)⟩
              · exact ⟨by decide +kernel, by unfold IntOk; simp, .inr (.inl rfl)⟩
            · split at h
              · split at h
                · cases h
                · split at h
                  · split at h
                    · cases h
                    · have i1 := ih _ _ _ _ _ (fun t ht => htl t (tail_sub ht)) h (show JobOk (.args (hdT l).t (hdT l).p []) by show ExsOk []; unfold ExsOk; trivial)
                      exact ⟨i1.1, fun t ht => tail_sub (tail_sub (i1.2 t ht))⟩
                  · cases h
                    exact ⟨by unfold ExOk; trivial, fun t ht => tail_sub ht⟩
              · cases h
end Go.Proofs.YtgajofkeidjbgaaGreatDoor
