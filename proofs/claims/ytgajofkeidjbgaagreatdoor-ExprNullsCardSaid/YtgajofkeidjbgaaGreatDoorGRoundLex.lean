/-
  PROVED HERE: in plain Lean: what is written of a tree is cut into the tree's tokens; so what is printed is read back to the same tree, but for places; of the same tree comes the same.
-/
import Derived.Test.YtgajofkeidjbgaaGreatDoorGRoundPar
namespace Go.Proofs.YtgajofkeidjbgaaGreatDoor
set_option linter.unusedSimpArgs false
set_option linter.unusedVariables false
open Go Go.RowKit

/-- the text is cut into these tokens, if no word goes on behind it. -/
def LexC (text : List UInt8) (ts : List KT) : Prop := ∀ (p : Nat) (more : List UInt8), okM more → ∃ l : List Tok, l.map Tok.kt = ts ∧ ∀ n, (text ++ more).length ≤ n → lexX n p (text ++ more) = addT l (lexX n (p + text.length) more)
/-- .. whatever stands behind it. -/
def LexF (text : List UInt8) (ts : List KT) : Prop := ∀ (p : Nat) (more : List UInt8), ∃ l : List Tok, l.map Tok.kt = ts ∧ ∀ n, (text ++ more).length ≤ n → lexX n p (text ++ more) = addT l (lexX n (p + text.length) more)
theorem LexF.c {t : List UInt8} {ts : List KT} (h : LexF t ts) : LexC t ts := fun p more _ => h p more
theorem addT_addT (a b : List Tok) (x : Except Nat (List Tok)) : addT a (addT b x) = addT (a ++ b) x := by
  cases x with
  | error e => rfl
  | ok l => simp [addT]
theorem lex_app {a b more : List UInt8} {ta tb : List KT} {p : Nat} (ha : ∃ l : List Tok, l.map Tok.kt = ta ∧ ∀ n, (a ++ (b ++ more)).length ≤ n → lexX n p (a ++ (b ++ more)) = addT l (lexX n (p + a.length) (b ++ more)))
    (hb : ∃ l : List Tok, l.map Tok.kt = tb ∧ ∀ n, (b ++ more).length ≤ n → lexX n (p + a.length) (b ++ more) = addT l (lexX n (p + a.length + b.length) more)) :
    ∃ l : List Tok, l.map Tok.kt = ta ++ tb ∧ ∀ n, (a ++ b ++ more).length ≤ n → lexX n p (a ++ b ++ more) = addT l (lexX n (p + (a ++ b).length) more) := by
  obtain ⟨l1, h1, e1⟩ := ha
  obtain ⟨l2, h2, e2⟩ := hb
  refine ⟨l1 ++ l2, by rw [List.map_append, h1, h2], fun n hn => ?_⟩
  rw [List.append_assoc] at hn ⊢
  rw [e1 n hn, e2 n (by simp only [List.length_append] at hn ⊢; omega), addT_addT, List.length_append, Nat.add_assoc]
theorem LexC.app {a b : List UInt8} {ta tb : List KT} (ha : LexC a ta) (hb : LexC b tb) (hok : ∀ more, okM more → okM (b ++ more)) : LexC (a ++ b) (ta ++ tb) := fun p more hm => lex_app (ha p _ (hok more hm)) (hb _ more hm)
theorem LexF.app {a b : List UInt8} {ta tb : List KT} (ha : LexF a ta) (hb : LexC b tb) : LexC (a ++ b) (ta ++ tb) := fun p more hm => lex_app (ha p _) (hb _ more hm)
theorem LexC.appF {a b : List UInt8} {ta tb : List KT} (ha : LexC a ta) (hb : LexF b tb) (hok : ∀ more, okM (b ++ more)) : LexF (a ++ b) (ta ++ tb) := fun p more => lex_app (ha p _ (hok more)) (hb _ more)
theorem LexF.appF {a b : List UInt8} {ta tb : List KT} (ha : LexF a ta) (hb : LexF b tb) : LexF (a ++ b) (ta ++ tb) := fun p more => lex_app (ha p _) (hb _ more)
theorem lex_one {c : UInt8} {r more : List UInt8} {k : UInt8} {p : Nat} (hs : spaceB c = false) (h : tokAt c (r ++ more) = some (k, (c :: r).length)) :
    ∃ l : List Tok, l.map Tok.kt = [(k, c :: r)] ∧ ∀ n, (c :: r ++ more).length ≤ n → lexX n p (c :: r ++ more) = addT l (lexX n (p + (c :: r).length) more) := by
  refine ⟨[⟨k, c :: r, p⟩], rfl, fun n hn => ?_⟩
  have e1 : List.drop (c :: r).length (c :: (r ++ more)) = more := by
    show List.drop (c :: r).length (c :: r ++ more) = more
    rw [List.drop_left]
  have e2 : List.take (c :: r).length (c :: (r ++ more)) = c :: r := by
    show List.take (c :: r).length (c :: r ++ more) = c :: r
    rw [List.take_left]
  cases n with
  | zero => simp at hn
  | succ n =>
    show lexX (n + 1) p (c :: (r ++ more)) = _
    conv => lhs; unfold lexX
    rw [if_neg (by rw [hs]; simp), h]
    simp only
    rw [e1, e2, lexX_enough n (n + 1) _ more (by simp only [List.length_append, List.length_cons] at hn; omega) (by simp only [List.length_append, List.length_cons] at hn; omega)]
    cases lexX (n + 1) (p + (c :: r).length) more <;> rfl
theorem TokLx.lex {t : Tok} (h : TokLx t) : LexC t.t [t.kt] := by
  obtain ⟨c, r, h1, h2, h3⟩ := h
  intro p more hm
  have h4 := h3 more hm
  show ∃ l : List Tok, l.map Tok.kt = [(t.k, t.t)] ∧ _
  rw [h1] at h4 ⊢
  exact lex_one h2 h4
theorem lex_space : LexF [32] [] := fun p more => ⟨[], rfl, fun n hn => by
  cases n with
  | zero => simp at hn
  | succ n =>
    show lexX (n + 1) p (32 :: more) = addT [] (lexX (n + 1) (p + 1) more)
    conv => lhs; unfold lexX
    rw [if_pos (by rfl), lexX_enough n (n + 1) _ more (by simp at hn; omega) (by simp at hn; omega)]
    cases lexX (n + 1) (p + 1) more <;> rfl⟩
theorem lex_open : LexF openW [(111, openW)] := fun _ _ => lex_one (r := []) (by rfl) (by rfl)
theorem lex_close : LexF closeW [(111, closeW)] := fun _ _ => lex_one (r := []) (by rfl) (by rfl)
theorem lex_comma : LexF commaW [(111, commaW)] := fun _ _ => lex_one (r := []) (by rfl) (by rfl)
theorem lex_minus : LexF minusW [(111, minusW)] := fun _ _ => lex_one (r := []) (by rfl) (by rfl)
theorem lex_nil : LexC [] [] := fun p more _ => ⟨[], rfl, fun n _ => by
  show lexX n p more = addT [] (lexX n (p + 0) more)
  rw [Nat.add_zero]
  cases lexX n p more <;> rfl⟩

/-! tokens that were cut off some text -/
theorem okM_cases {more : List UInt8} (h : okM more) : more = [] ∨ (∃ r, more = 32 :: r) ∨ (∃ r, more = 40 :: r) ∨ (∃ r, more = 41 :: r) ∨ ∃ r, more = 44 :: r := by
  cases more with
  | nil => exact .inl rfl
  | cons c r =>
    rcases h c r rfl with rfl | rfl | rfl | rfl
    · exact .inr (.inl ⟨r, rfl⟩)
    · exact .inr (.inr (.inl ⟨r, rfl⟩))
    · exact .inr (.inr (.inr (.inl ⟨r, rfl⟩)))
    · exact .inr (.inr (.inr (.inr ⟨r, rfl⟩)))
theorem okM_word {more : List UInt8} (h : okM more) : more.takeWhile wordB = [] := by
  rcases okM_cases h with rfl | ⟨r, rfl⟩ | ⟨r, rfl⟩ | ⟨r, rfl⟩ | ⟨r, rfl⟩ <;> rfl
def SignLx (g : List UInt8) : Prop := ∃ c r, g = c :: r ∧ spaceB c = false ∧ ∀ more, okM more → tokAt c (r ++ more) = some (111, g.length)
theorem sign_lx : ∀ g ∈ signsW, SignLx g := by
  intro g hg
  unfold signsW at hg
  simp only [List.mem_cons, List.not_mem_nil, or_false] at hg
  rcases hg with rfl | rfl | rfl | rfl | rfl | rfl | rfl | rfl | rfl | rfl | rfl | rfl | rfl | rfl | rfl
  all_goals
    refine ⟨_, _, rfl, by rfl, fun more hm => ?_⟩
    rcases okM_cases hm with rfl | ⟨r, rfl⟩ | ⟨r, rfl⟩ | ⟨r, rfl⟩ | ⟨r, rfl⟩ <;> rfl
theorem word_lx {c : UInt8} {r : List UInt8} {p : Nat} (hc : wordB c = true) (hr : ∀ b ∈ r, wordB b = true) (hs : spaceB c = false) : TokLx ⟨if digitB c = true then 48 else 110, c :: r, p⟩ := by
  refine ⟨c, r, rfl, hs, fun more hm => ?_⟩
  unfold tokAt
  rw [if_pos hc, List.takeWhile_append_of_pos hr, okM_word hm, List.append_nil]
  simp [Nat.add_comm]
theorem tokAt_lx {c : UInt8} {t : List UInt8} {k : UInt8} {m : Nat} (hs : spaceB c = false) (h : tokAt c t = some (k, m)) (p : Nat) : TokLx ⟨k, (c :: t).take m, p⟩ := by
  unfold tokAt at h
  split at h
  · rename_i hw
    simp only [Option.some.injEq, Prod.mk.injEq] at h
    obtain ⟨rfl, rfl⟩ := h
    have e : (c :: t).take (1 + (t.takeWhile wordB).length) = c :: t.takeWhile wordB := by
      rw [Nat.add_comm, List.take_succ_cons]
      congr 1
      exact (List.prefix_iff_eq_take.1 (List.takeWhile_prefix wordB)).symm
    rw [e]
    exact word_lx hw (fun b hb => List.all_eq_true.1 (List.all_takeWhile) b hb) hs
  · rename_i hw
    split at h
    · rename_i hc
      subst hc
      split at h
      · rename_i hlt
        simp only [Option.some.injEq, Prod.mk.injEq] at h
        obtain ⟨rfl, rfl⟩ := h
        obtain ⟨u, hu⟩ : ∃ u, t = t.takeWhile notQuote ++ 39 :: u := by
          have h1 := List.takeWhile_append_dropWhile (p := notQuote) (l := t)
          cases hd : t.dropWhile notQuote with
          | nil => rw [hd, List.append_nil] at h1; rw [h1] at hlt; omega
          | cons b u =>
            have hb : notQuote b = false := by
              have := List.head_dropWhile_not notQuote (l := t) (by rw [hd]; simp)
              simpa [hd] using this
            have : b = 39 := by unfold notQuote at hb; simpa using hb
            rw [hd, this] at h1
            exact ⟨u, h1.symm⟩
        obtain ⟨q, hq⟩ : ∃ q, t.takeWhile notQuote = q := ⟨_, rfl⟩
        rw [hq] at hu ⊢
        have hall : ∀ b ∈ q, notQuote b = true := fun b hb => by rw [← hq] at hb; exact List.all_eq_true.1 (List.all_takeWhile) b hb
        have e : ((39 : UInt8) :: t).take (q.length + 2) = 39 :: (q ++ [39]) := by
          rw [List.take_succ_cons, hu]
          congr 1
          have : q ++ (39 : UInt8) :: u = (q ++ [39]) ++ u := by simp
          rw [this]
          have h2 : q.length + 1 = (q ++ [(39 : UInt8)]).length := by simp
          rw [h2, List.take_left]
        rw [e]
        refine ⟨39, q ++ [39], rfl, hs, fun more _ => ?_⟩
        have ht : (q ++ [39] ++ more).takeWhile notQuote = q := by
          rw [List.append_assoc, List.takeWhile_append_of_pos hall]
          show q ++ ((39 : UInt8) :: more).takeWhile notQuote = q
          rw [List.takeWhile_cons_of_neg (by decide), List.append_nil]
        unfold tokAt
        rw [if_neg hw, if_pos rfl, ht, if_pos (by simp only [List.length_append, List.length_cons, List.length_nil]; omega)]
        simp
      · cases h
    · split at h
      · cases h
      · rename_i h00
        simp only [Option.some.injEq, Prod.mk.injEq] at h
        obtain ⟨rfl, h⟩ := h
        unfold signLen at h h00
        split at h
        · rename_i hno
          rw [hno] at h00
          exact absurd rfl h00
        · rename_i g hg
          have h0 := List.find?_some hg
          have h1 := List.isPrefixOf_iff_prefix.1 h0
          have h2 := List.mem_of_find?_eq_some hg
          have h3 : (c :: t).take m = g := by rw [← h]; exact (List.prefix_iff_eq_take.1 h1).symm
          rw [h3]
          obtain ⟨c', r', e1, e2, e3⟩ := sign_lx g h2
          exact ⟨c', r', e1, e2, e3⟩
theorem lexX_g : ∀ (n p : Nat) (s : List UInt8) (l : List Tok), lexX n p s = .ok l → s.length ≤ n → ∀ t ∈ l, t.k = 0 ∨ TokLx t
  | n, p, [], l, h, _ => by
    unfold lexX at h
    cases h
    intro t ht
    obtain rfl := List.mem_singleton.1 ht
    exact .inl rfl
  | 0, p, c :: s, l, h, hl => absurd hl (by simp)
  | n + 1, p, c :: s, l, h, hl => by
    simp only [List.length_cons] at hl
    unfold lexX at h
    split at h
    · exact lexX_g n _ _ _ h (by omega)
    · rename_i hs
      cases ht : tokAt c s with
      | none => rw [ht] at h; cases h
      | some x =>
        obtain ⟨k, m⟩ := x
        rw [ht] at h
        simp only at h
        have hm := tokAt_len ht
        cases hr : lexX n (p + m) ((c :: s).drop m) with
        | error e => rw [hr] at h; cases h
        | ok l' =>
          rw [hr] at h
          cases h
          have ih := lexX_g n _ _ _ hr (by simp only [List.length_drop, List.length_cons]; omega)
          intro t ht'
          rcases List.mem_cons.1 ht' with rfl | h1
          · exact .inr (tokAt_lx (by simpa using hs) ht p)
          · exact ih t h1

/-! what is written of a tree -/
theorem okM_cons {c : UInt8} {r : List UInt8} (h : c = 32 ∨ c = 40 ∨ c = 41 ∨ c = 44) : okM (c :: r) := fun c' r' e => by
  injection e with e _
  subst e
  exact h
theorem lex_brk {own L : Nat} {s : List UInt8} {ts : List KT} (h : LexC s ts) : LexC (brk (decide (own < L)) s) (wrapT own L ts) := by
  unfold brk wrapT
  by_cases ho : own < L
  · rw [if_pos (decide_eq_true ho), if_pos ho]
    exact LexF.app lex_open (h.appF lex_close fun more => okM_cons (.inr (.inr (.inl rfl)))).c
  · rw [if_neg (by simp [ho]), if_neg ho]
    exact h
theorem op_lex {o : List UInt8} (ho : o ∈ opsW) : LexC o [(opK o, o)] := by
  rcases opsW_cases ho with rfl | rfl | rfl | rfl | rfl | rfl | rfl | rfl | rfl | rfl | rfl | rfl | rfl | rfl
  · exact TokLx.lex (t := ⟨110, orW, 0⟩) (word_lx (by rfl) (by decide) (by rfl))
  · exact TokLx.lex (t := ⟨110, andW, 0⟩) (word_lx (by rfl) (by decide) (by rfl))
  · exact TokLx.lex (t := ⟨111, [61], 0⟩) (sign_lx _ (by decide))
  · exact TokLx.lex (t := ⟨111, [60, 62], 0⟩) (sign_lx _ (by decide))
  · exact TokLx.lex (t := ⟨111, [60], 0⟩) (sign_lx _ (by decide))
  · exact TokLx.lex (t := ⟨111, [60, 61], 0⟩) (sign_lx _ (by decide))
  · exact TokLx.lex (t := ⟨111, [62], 0⟩) (sign_lx _ (by decide))
  · exact TokLx.lex (t := ⟨111, [62, 61], 0⟩) (sign_lx _ (by decide))
  · exact TokLx.lex (t := ⟨111, [43], 0⟩) (sign_lx _ (by decide))
  · exact TokLx.lex (t := ⟨111, [45], 0⟩) (sign_lx _ (by decide))
  · exact TokLx.lex (t := ⟨111, catW, 0⟩) (sign_lx _ (by decide))
  · exact TokLx.lex (t := ⟨111, [42], 0⟩) (sign_lx _ (by decide))
  · exact TokLx.lex (t := ⟨111, [47], 0⟩) (sign_lx _ (by decide))
  · exact TokLx.lex (t := ⟨111, [37], 0⟩) (sign_lx _ (by decide))
theorem lit_lex {v : Val} (h : LitG v) : LexC (showV v) [(kindC (showV v), showV v)] := by
  have hk : ∀ {t : Tok}, t.kt = (kindC (showV v), showV v) → True := fun _ => trivial
  rcases h with ⟨t, ht, hk, hs, hr⟩ | ⟨b, rfl⟩
  · have h1 := (ht.2.resolve_left (by rcases hk with e | e <;> rw [e] <;> decide)).lex
    have h2 : t.k = kindC (showV v) := by
      rw [← hs]
      rcases ht.1 with ⟨e, -⟩ | ⟨e, -⟩ | ⟨e1, c, r, e2, e3⟩ | ⟨e1, r, e2⟩ | ⟨e, -⟩
      · rcases hk with k | k <;> rw [e] at k <;> exact absurd k (by decide)
      · rcases hk with k | k <;> rw [e] at k <;> exact absurd k (by decide)
      · rw [e1, e2]
        show 48 = if digitB c = true then (48 : UInt8) else _
        rw [if_pos e3]
      · rw [e1, e2]; rfl
      · rcases hk with k | k <;> rw [e] at k <;> exact absurd k (by decide)
    have h3 : t.kt = (kindC (showV v), showV v) := by rw [← h2, ← hs]; rfl
    rw [hs, h3] at h1
    exact h1
  · cases b
    · simp only [Bool.false_eq_true, if_false]
      rw [show_false]
      exact TokLx.lex (t := ⟨110, falseW, 0⟩) (word_lx (by rfl) (by decide) (by rfl))
    · simp only [if_true]
      rw [show_true]
      exact TokLx.lex (t := ⟨110, trueW, 0⟩) (word_lx (by rfl) (by decide) (by rfl))
theorem name_lex {s : List UInt8} (h : NameG s) : LexC s [(110, s)] := by
  obtain ⟨⟨t, ht, rfl, hn⟩, -⟩ := h
  have h1 := (ht.2.resolve_left (by rw [hn.1]; decide)).lex
  have h3 : t.kt = (110, t.t) := by rw [← hn.1]; rfl
  rw [h3] at h1
  exact h1
theorem lex_not : LexF [110, 111, 116, 32] [(110, notW)] := by
  have h := (TokLx.lex (t := ⟨110, notW, 0⟩) (word_lx (by rfl) (by decide) (by rfl))).appF lex_space fun more => okM_cons (.inl rfl)
  exact h
theorem prints_ok (l : List Ex) {more : List UInt8} (h : okM more) : okM (printsP true l ++ more) := by
  cases l with
  | nil => unfold printsP; exact h
  | cons x l => unfold printsP; exact okM_cons (.inr (.inr (.inr rfl)))
mutual
theorem lex_tree : ∀ (x : Ex), TreeG x → ∀ L, L ≤ 5 → LexC (printP x L) (toksA x L)
  | .lit v, h, L, hL => by
    unfold TreeG at h
    rw [toks_own (by show ¬ 5 < L; omega)]
    unfold printP rawT
    exact lit_lex h
  | .name s p, h, L, hL => by
    unfold TreeG at h
    rw [toks_own (by show ¬ 5 < L; omega)]
    unfold printP rawT
    exact name_lex h
  | .un true p x, h, L, hL => by
    unfold TreeG at h
    unfold printP toksA rawT
    exact lex_brk (own := 5) (LexF.app lex_minus (lex_tree x h 5 (by omega)))
  | .un false p x, h, L, hL => by
    unfold TreeG at h
    unfold printP toksA rawT
    exact lex_brk (own := 2) (LexF.app lex_not (lex_tree x h 2 (by omega)))
  | .bin o p x y, h, L, hL => by
    unfold TreeG at h
    have hl := (level_lt h.1).1
    have h1 := lex_tree x h.2.1 (leftL o) (by unfold leftL; split <;> omega)
    have h2 := lex_tree y h.2.2 (levelO o + 1) (by omega)
    unfold printP toksA rawT
    refine lex_brk (own := levelO o) (LexC.app h1 ?_ fun more _ => okM_cons (.inl rfl))
    have h3 : LexF ([32] ++ (o ++ [32])) ([] ++ ([(opK o, o)] ++ [])) := LexF.appF lex_space ((op_lex h.1).appF lex_space fun more => okM_cons (.inl rfl))
    exact LexF.app h3 h2
  | .call f p l, h, L, hL => by
    unfold TreeG at h
    rw [toks_own (by show ¬ 5 < L; omega)]
    unfold printP rawT
    have h1 : LexF (f ++ [40]) ([(110, f)] ++ [(111, openW)]) := (name_lex h.1).appF lex_open fun more => okM_cons (.inr (.inl rfl))
    exact LexF.app h1 ((lex_trees l h.2 false).appF lex_close fun more => okM_cons (.inr (.inr (.inl rfl)))).c
theorem lex_trees : ∀ (l : List Ex), TreesG l → ∀ m : Bool, LexC (printsP m l) (rawsT m l)
  | [], _, m => by unfold printsP rawsT; exact lex_nil
  | x :: l, h, m => by
    unfold TreesG at h
    have h1 := lex_tree x h.1 0 (by omega)
    rw [toks_own (by omega)] at h1
    have h2 := LexC.app h1 (lex_trees l h.2 true) fun more hm => prints_ok l hm
    unfold printsP rawsT
    cases m
    · exact h2
    · have h3 : LexF ([44] ++ [32]) ([(111, commaW)] ++ []) := LexF.appF lex_comma lex_space
      exact LexF.app h3 h2
end
/-- what is printed of a text is read back. -/
theorem round_text {s : List UInt8} {x : Ex} (h : TextR true s (.ok x)) (hlen : (printP x 0).length ≤ 200) : ∃ x', SameE x x' ∧ TextR true (printP x 0) (.ok x') := by
  unfold TextR at h
  split at h
  · cases h
  · cases hx : lexX s.length 0 s with
    | error p => rw [hx] at h; cases h
    | ok l =>
      rw [hx] at h
      obtain ⟨q, ⟨n, hq⟩, hd⟩ := h
      have hg : ∀ t ∈ l, TokG t := fun t ht => ⟨(lexX_ok _ _ _ _ hx (Nat.le_refl _)).1 t ht, lexX_g _ _ _ _ hx (Nat.le_refl _) t ht⟩
      cases q with
      | error e => unfold doneR at hd; cases hd
      | ok q =>
        obtain ⟨x0, r⟩ := q
        have hx0 : x0 = x := by
          unfold doneR at hd
          simp only at hd
          split at hd
          · exact (Except.ok.inj hd).symm
          · cases hd
        subst hx0
        have hp := parse_dep n (.bin 0) 0 l x0 r hg (by omega) hq (show 0 ≤ 5 by omega)
        obtain ⟨l', h1, h2⟩ := lex_tree x0 hp.1 0 (by omega) 0 [] (fun _ _ h => by cases h)
        have h3 := h2 (printP x0 0).length (by simp)
        rw [List.append_nil] at h3
        have hend : lexX (printP x0 0).length (0 + (printP x0 0).length) [] = .ok [⟨0, [], (printP x0 0).length⟩] := by unfold lexX; rw [Nat.zero_add]
        rw [hend] at h3
        have hs : StopL 0 [⟨0, [], (printP x0 0).length⟩] := by
          have : ∀ y, isW (hdT [⟨0, [], (printP x0 0).length⟩]) y = false := fun y => isW_k (by show (0 : UInt8) ≠ 111; decide) (by show (0 : UInt8) ≠ 110; decide)
          exact ⟨fun j _ _ => by rw [List.any_eq_false]; intro y _; rw [this]; simp, this _⟩
        obtain ⟨x', e1, e2⟩ := (rt_all x0 hp.1 0 (by omega)).1 0 l' _ h1 hp.2.1 hs
        refine ⟨x', e1, ?_⟩
        unfold TextR
        rw [if_neg (by omega), h3]
        exact ⟨_, e2, rfl⟩

/-! of the same tree comes the same -/
theorem SameE.own {x x' : Ex} (h : SameE x x') : ownL x = ownL x' := by
  cases x <;> unfold SameE at h
  · subst h; rfl
  · obtain ⟨p, rfl⟩ := h; rfl
  · obtain ⟨p, y, rfl, -⟩ := h; rfl
  · obtain ⟨p, y, z, rfl, -⟩ := h; rfl
  · obtain ⟨p, l, rfl, -⟩ := h; rfl
mutual
theorem print_eq : ∀ (x x' : Ex), SameE x x' → ∀ L, printP x L = printP x' L
  | .lit v, x', h, L => by unfold SameE at h; subst h; rfl
  | .name s p, x', h, L => by unfold SameE at h; obtain ⟨q, rfl⟩ := h; unfold printP; rfl
  | .un neg p x, x', h, L => by
    unfold SameE at h
    obtain ⟨q, y, rfl, h⟩ := h
    unfold printP
    rw [print_eq x y h]
  | .bin o p x y, x', h, L => by
    unfold SameE at h
    obtain ⟨q, x1, y1, rfl, h1, h2⟩ := h
    unfold printP
    rw [print_eq x x1 h1, print_eq y y1 h2]
  | .call f p l, x', h, L => by
    unfold SameE at h
    obtain ⟨q, l', rfl, h⟩ := h
    unfold printP
    rw [prints_eq l l' h]
theorem prints_eq : ∀ (l l' : List Ex), SamesE l l' → ∀ m, printsP m l = printsP m l'
  | [], l', h, m => by unfold SamesE at h; subst h; rfl
  | x :: l, l', h, m => by
    unfold SamesE at h
    obtain ⟨x', r, rfl, h1, h2⟩ := h
    unfold printsP
    rw [print_eq x x' h1, prints_eq l r h2]
end
/-- the same kind, or the same fault. -/
def KindEq {α : Type} (a b : Except Fault α) : Prop := match a, b with
  | .ok k, .ok k' => k = k'
  | .error f, .error f' => f.1 = f'.1
  | _, _ => False
mutual
theorem kind_eq (cs : List Col) : ∀ (x x' : Ex), SameE x x' → KindEq (kindP cs x) (kindP cs x')
  | .lit v, x', h => by unfold SameE at h; subst h; unfold kindP; rfl
  | .name s p, x', h => by
    unfold SameE at h
    obtain ⟨q, rfl⟩ := h
    unfold kindP
    cases colAt cs s <;> rfl
  | .un neg p x, x', h => by
    unfold SameE at h
    obtain ⟨q, y, rfl, h⟩ := h
    have := kind_eq cs x y h
    unfold kindP
    revert this
    cases kindP cs x with
    | error f =>
      cases kindP cs y with
      | error f' => exact fun h => h
      | ok k => exact fun h => h.elim
    | ok k =>
      cases kindP cs y with
      | error f' => exact fun h => h.elim
      | ok k' =>
        intro h
        have h : k = k' := h
        subst h
        cases neg
        · by_cases hk : k = 2 <;> simp [KindEq, hk]
        · by_cases hk : k = 1 <;> simp [KindEq, hk]
  | .bin o p x y, x', h => by
    unfold SameE at h
    obtain ⟨q, x1, y1, rfl, h1, h2⟩ := h
    have i1 := kind_eq cs x x1 h1
    have i2 := kind_eq cs y y1 h2
    unfold kindP
    revert i1 i2
    cases kindP cs x with
    | error f =>
      cases kindP cs x1 with
      | error f' => exact fun h _ => h
      | ok k => exact fun h => h.elim
    | ok k =>
      cases kindP cs x1 with
      | error f' => exact fun h => h.elim
      | ok k' =>
        intro h
        have h : k = k' := h
        subst h
        cases kindP cs y with
        | error f =>
          cases kindP cs y1 with
          | error f' => exact fun h => h
          | ok k => exact fun h => h.elim
        | ok b =>
          cases kindP cs y1 with
          | error f' => exact fun h => h.elim
          | ok b' =>
            intro h
            have h : b = b' := h
            subst h
            simp only
            cases binK o k b <;> exact rfl
  | .call f p l, x', h => by
    unfold SameE at h
    obtain ⟨q, l', rfl, h⟩ := h
    have i1 := kinds_eq cs l l' h
    unfold kindP
    cases argsF f with
    | none => rfl
    | some a =>
      simp only
      revert i1
      cases kindsP cs l with
      | error e =>
        cases kindsP cs l' with
        | error f' => exact fun h => h
        | ok k => exact fun h => h.elim
      | ok ks =>
        cases kindsP cs l' with
        | error f' => exact fun h => h.elim
        | ok ks' =>
          intro h
          have h : ks = ks' := h
          subst h
          simp only
          cases callK f ks <;> exact rfl
theorem kinds_eq (cs : List Col) : ∀ (l l' : List Ex), SamesE l l' → KindEq (kindsP cs l) (kindsP cs l')
  | [], l', h => by unfold SamesE at h; subst h; unfold kindsP; rfl
  | x :: l, l', h => by
    unfold SamesE at h
    obtain ⟨x', r, rfl, h1, h2⟩ := h
    have i1 := kind_eq cs x x' h1
    have i2 := kinds_eq cs l r h2
    unfold kindsP
    revert i1 i2
    cases kindP cs x with
    | error f =>
      cases kindP cs x' with
      | error f' => exact fun h _ => h
      | ok k => exact fun h => h.elim
    | ok k =>
      cases kindP cs x' with
      | error f' => exact fun h => h.elim
      | ok k' =>
        intro h
        have h : k = k' := h
        subst h
        cases kindsP cs l with
        | error f =>
          cases kindsP cs r with
          | error f' => exact fun h => h
          | ok k => exact fun h => h.elim
        | ok b =>
          cases kindsP cs r with
          | error f' => exact fun h => h.elim
          | ok b' =>
            intro h
            have h : b = b' := h
            subst h
            rfl
end
mutual
theorem eval_eq (cs : List Col) (row : List Val) : ∀ (x x' : Ex), SameE x x' → evalP cs row x = evalP cs row x'
  | .lit v, x', h => by unfold SameE at h; subst h; rfl
  | .name s p, x', h => by unfold SameE at h; obtain ⟨q, rfl⟩ := h; unfold evalP; rfl
  | .un neg p x, x', h => by
    unfold SameE at h
    obtain ⟨q, y, rfl, h⟩ := h
    unfold evalP
    rw [eval_eq cs row x y h]
  | .bin o p x y, x', h => by
    unfold SameE at h
    obtain ⟨q, x1, y1, rfl, h1, h2⟩ := h
    unfold evalP
    rw [eval_eq cs row x x1 h1, eval_eq cs row y y1 h2]
  | .call f p l, x', h => by
    unfold SameE at h
    obtain ⟨q, l', rfl, h⟩ := h
    unfold evalP
    rw [evals_eq cs row l l' h]
theorem evals_eq (cs : List Col) (row : List Val) : ∀ (l l' : List Ex), SamesE l l' → evalsP cs row l = evalsP cs row l'
  | [], l', h => by unfold SamesE at h; subst h; rfl
  | x :: l, l', h => by
    unfold SamesE at h
    obtain ⟨x', r, rfl, h1, h2⟩ := h
    unfold evalsP
    rw [eval_eq cs row x x' h1, evals_eq cs row l r h2]
end
end Go.Proofs.YtgajofkeidjbgaaGreatDoor
