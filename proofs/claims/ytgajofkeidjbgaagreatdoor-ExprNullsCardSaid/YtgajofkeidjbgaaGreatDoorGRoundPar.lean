/-
  PROVED HERE: in plain Lean: the tokens of a tree's text are read back to the same tree, but for places.
-/
import Derived.Test.YtgajofkeidjbgaaGreatDoorGExprDoc
import Derived.Test.YtgajofkeidjbgaaGreatDoorGParText
import Derived.Test.YtgajofkeidjbgaaGreatDoorGParUnP
namespace Go.Proofs.YtgajofkeidjbgaaGreatDoor
set_option linter.unusedSimpArgs false
set_option linter.unusedVariables false
open Go Go.RowKit

/-- a token's sort and text. -/
abbrev KT := UInt8 × List UInt8
def Tok.kt (t : Tok) : KT := (t.k, t.t)
def kindC (s : List UInt8) : UInt8 := match s with
  | [] => 0
  | c :: _ => if digitB c = true then 48 else if c = 39 then 39 else 110
def opK (o : List UInt8) : UInt8 := if o = orW ∨ o = andW then 110 else 111
/-- the level at which a tree is read. -/
def ownL : Ex → Nat
  | .un neg _ _ => if neg = true then 5 else 2
  | .bin o _ _ _ => levelO o
  | _ => 5
def leftL (o : List UInt8) : Nat := if levelO o = 2 then 3 else levelO o
def kidL (neg : Bool) : Nat := if neg = true then 5 else 2
def wrapT (own L : Nat) (ts : List KT) : List KT := if own < L then (111, openW) :: (ts ++ [(111, closeW)]) else ts
def wrapD (own L n : Nat) : Nat := if own < L then n + 1 else n
mutual
/-- the tokens of a tree's text. -/
def rawT : Ex → List KT
  | .lit v => [(kindC (showV v), showV v)]
  | .name s _ => [(110, s)]
  | .un neg _ x => (if neg = true then ((111, minusW) : KT) else (110, notW)) :: wrapT (ownL x) (kidL neg) (rawT x)
  | .bin o _ x y => wrapT (ownL x) (leftL o) (rawT x) ++ ((opK o, o) :: wrapT (ownL y) (levelO o + 1) (rawT y))
  | .call f _ l => (110, f) :: (111, openW) :: (rawsT false l ++ [(111, closeW)])
def rawsT : Bool → List Ex → List KT
  | _, [] => []
  | more, x :: l => (if more = true then [((111, commaW) : KT)] else []) ++ (rawT x ++ rawsT true l)
end
mutual
/-- how deep a tree's text goes in. -/
def depT : Ex → Nat
  | .lit _ => 0
  | .name _ _ => 0
  | .un neg _ x => 1 + wrapD (ownL x) (kidL neg) (depT x)
  | .bin o _ x y => max (wrapD (ownL x) (leftL o) (depT x)) (wrapD (ownL y) (levelO o + 1) (depT y))
  | .call _ _ l => 1 + depsT l
def depsT : List Ex → Nat
  | [] => 0
  | x :: l => max (depT x) (depsT l)
end
def toksA (x : Ex) (L : Nat) : List KT := wrapT (ownL x) L (rawT x)
def depA (x : Ex) (L : Nat) : Nat := wrapD (ownL x) L (depT x)
mutual
/-- the same tree, but for places. -/
def SameE : Ex → Ex → Prop
  | .lit v, y => y = .lit v
  | .name s _, y => ∃ p, y = .name s p
  | .un neg _ x, y => ∃ p x', y = .un neg p x' ∧ SameE x x'
  | .bin o _ x1 x2, y => ∃ p y1 y2, y = .bin o p y1 y2 ∧ SameE x1 y1 ∧ SameE x2 y2
  | .call f _ l, y => ∃ p l', y = .call f p l' ∧ SamesE l l'
def SamesE : List Ex → List Ex → Prop
  | [], l' => l' = []
  | x :: l, l' => ∃ x' r, l' = x' :: r ∧ SameE x x' ∧ SamesE l r
end

/-! what the parser's trees are like -/
def okM (more : List UInt8) : Prop := ∀ c r, more = c :: r → c = 32 ∨ c = 40 ∨ c = 41 ∨ c = 44
/-- a token that is cut off its text wherever it stands. -/
def TokLx (t : Tok) : Prop := ∃ c r, t.t = c :: r ∧ spaceB c = false ∧ ∀ more, okM more → tokAt c (r ++ more) = some (t.k, t.t.length)
def TokG (t : Tok) : Prop := TokOk t ∧ (t.k = 0 ∨ TokLx t)
def LitG (v : Val) : Prop := (∃ t : Tok, TokG t ∧ (t.k = 48 ∨ t.k = 39) ∧ t.t = showV v ∧ readP t.t = some v) ∨ ∃ b : Bool, v = ⟨2, if b = true then 1 else 0, ⟨#[]⟩⟩
def NameG (s : List UInt8) : Prop := (∃ t : Tok, TokG t ∧ t.t = s ∧ IsName t) ∧ s.length ≤ 12
mutual
def TreeG : Ex → Prop
  | .lit v => LitG v
  | .name s _ => NameG s
  | .un _ _ x => TreeG x
  | .bin o _ x y => o ∈ opsW ∧ TreeG x ∧ TreeG y
  | .call f _ l => NameG f ∧ TreesG l
def TreesG : List Ex → Prop
  | [] => True
  | x :: l => TreeG x ∧ TreesG l
end
theorem trees_add : ∀ {l : List Ex} {x : Ex}, TreesG l → TreeG x → TreesG (l ++ [x])
  | [], _, _, hx => by show TreesG [_]; unfold TreesG; exact ⟨hx, by unfold TreesG; trivial⟩
  | y :: l, x, h, hx => by
    unfold TreesG at h
    show TreesG (y :: (l ++ [x]))
    unfold TreesG
    exact ⟨h.1, trees_add h.2 hx⟩
theorem deps_add : ∀ (l : List Ex) (x : Ex), depsT (l ++ [x]) = max (depsT l) (depT x)
  | [], x => by show depsT [x] = _; unfold depsT depsT; omega
  | y :: l, x => by
    show depsT (y :: (l ++ [x])) = _
    unfold depsT
    rw [deps_add l x]
    omega
theorem depA_mono (x : Ex) {L L' : Nat} (h : L ≤ L') : depA x L ≤ depA x L' := by
  unfold depA wrapD
  split <;> split <;> omega
theorem depA_le (x : Ex) (L : Nat) : depA x L ≤ depT x + 1 := by
  unfold depA wrapD
  split <;> omega
theorem depA_zero (x : Ex) : depA x 0 = depT x := by unfold depA wrapD; rw [if_neg (by omega)]
theorem depA_own {x : Ex} {L : Nat} (h : ¬ ownL x < L) : depA x L = depT x := by unfold depA wrapD; rw [if_neg h]
theorem lvl_of {o : List UInt8} : ∀ {L : Nat}, L < 5 → o ∈ lvlOps L → levelO o = L
  | 0, _, h => by simp only [lvlOps, List.mem_cons, List.not_mem_nil, or_false] at h; subst h; decide
  | 1, _, h => by simp only [lvlOps, List.mem_cons, List.not_mem_nil, or_false] at h; subst h; decide
  | 2, _, h => by simp only [lvlOps, List.mem_cons, List.not_mem_nil, or_false] at h; rcases h with rfl | rfl | rfl | rfl | rfl | rfl <;> decide
  | 3, _, h => by simp only [lvlOps, List.mem_cons, List.not_mem_nil, or_false] at h; rcases h with rfl | rfl | rfl <;> decide
  | 4, _, h => by simp only [lvlOps, List.mem_cons, List.not_mem_nil, or_false] at h; rcases h with rfl | rfl | rfl <;> decide
  | _ + 5, h, _ => absurd h (by omega)
theorem any_mem {L : Nat} {t : Tok} (h : (lvlOps L).any (isW t) = true) : t.t ∈ lvlOps L := by
  rw [any_isW] at h
  simp only [Bool.and_eq_true, decide_eq_true_eq] at h
  exact h.1
def JobD : Job → Nat → Prop
  | .bin L, _ => L ≤ 5
  | .loop L x, d => L < 5 ∧ TreeG x ∧ d + depA x (if L = 2 then 3 else L) ≤ 12
  | .un, _ => True
  | .args f _ acc, d => NameG f ∧ TreesG acc ∧ d + depsT acc ≤ 12
  | _, _ => False
def AnsD : Job → Nat → Ex → Prop
  | .bin L, d, x => d + depA x L ≤ 12
  | .loop L _, d, x => d + depA x L ≤ 12
  | .un, d, x => d + depA x 5 ≤ 12
  | .args _ _ _, d, x => d + depA x 5 ≤ 13
  | _, _, _ => True
theorem dep_bin {o : List UInt8} {L p : Nat} {x y : Ex} (h : levelO o = L) : depT (.bin o p x y) = max (depA x (if L = 2 then 3 else L)) (depA y (L + 1)) ∧ depA (.bin o p x y) L = max (depA x (if L = 2 then 3 else L)) (depA y (L + 1)) := by
  have e : depT (.bin o p x y) = max (depA x (if L = 2 then 3 else L)) (depA y (L + 1)) := by
    conv => lhs; unfold depT
    unfold leftL depA
    rw [h]
  refine ⟨e, ?_⟩
  rw [depA_own (by show ¬ levelO o < L; omega), e]
theorem hd_g {l : List Tok} (h : ∀ t ∈ l, TokG t) (hk : (hdT l).k ≠ 0) : TokG (hdT l) := by
  cases l with
  | nil => exact absurd rfl hk
  | cons t r => exact h t (by simp)
theorem parse_dep : ∀ (n : Nat) (j : Job) (d : Nat) (l : List Tok) (x : Ex) (r : List Tok), (∀ t ∈ l, TokG t) → d ≤ 12 → parseX true n j d l = some (.ok (x, r)) → JobD j d → TreeG x ∧ AnsD j d x ∧ ∀ t ∈ r, t ∈ l
  | 0, _, _, _, _, _, _, _, h, _ => by unfold parseX at h; cases h
  | n + 1, j, d, l, x, r, hl, hd, h, hj => by
    have ih := parse_dep n
    have htl : ∀ t ∈ l.tail, TokG t := fun t ht => hl t (tail_sub ht)
    unfold parseX at h
    cases j with
    | climb q => exact hj.elim
    | cloop q m f y0 => exact hj.elim
    | bin L =>
      have hj : L ≤ 5 := hj
      simp only at h
      split at h
      · obtain rfl : L = 5 := by omega
        have i1 := ih .un _ _ _ _ hl hd h trivial
        exact ⟨i1.1, i1.2.1, i1.2.2⟩
      · split at h
        · rename_i h5 h2
          obtain ⟨rfl, h2⟩ := h2
          split at h
          · cases h
          · rename_i hd1
            cases hc : parseX true n (.bin 2) (d + 1) l.tail with
            | none => rw [hc] at h; cases h
            | some v =>
              rw [hc] at h
              cases v with
              | error e => cases h
              | ok y =>
                obtain ⟨y, r1⟩ := y
                have i1 := ih _ _ _ _ _ htl (by omega) hc (show 2 ≤ 5 by omega)
                cases h
                refine ⟨by unfold TreeG; exact i1.1, ?_, fun t ht => tail_sub (i1.2.2 t ht)⟩
                have e : d + 1 + depA y 2 ≤ 12 := i1.2.1
                show d + depA _ 2 ≤ 12
                rw [depA_own (by show ¬ 2 < 2; omega)]
                have e2 : depT (.un false (hdT l).p y) = 1 + depA y 2 := by unfold depT; rfl
                rw [e2]; omega
        · cases hc : parseX true n (.bin (L + 1)) d l with
          | none => rw [hc] at h; cases h
          | some v =>
            rw [hc] at h
            cases v with
            | error e => cases h
            | ok y =>
              obtain ⟨y, r1⟩ := y
              have i1 := ih _ _ _ _ _ hl hd hc (show L + 1 ≤ 5 by omega)
              have e : d + depA y (L + 1) ≤ 12 := i1.2.1
              have em : depA y (if L = 2 then 3 else L) ≤ depA y (L + 1) := depA_mono y (by split <;> omega)
              have i2 := ih _ _ _ _ _ (fun t ht => hl t (i1.2.2 t ht)) hd h (show JobD (.loop L y) d from ⟨by omega, i1.1, by omega⟩)
              exact ⟨i2.1, i2.2.1, fun t ht => i1.2.2 t (i2.2.2 t ht)⟩
    | loop L y0 =>
      obtain ⟨hL, hy0, hdy⟩ : L < 5 ∧ TreeG y0 ∧ d + depA y0 (if L = 2 then 3 else L) ≤ 12 := hj
      simp only at h
      split at h
      · rename_i hop
        cases hc : parseX true n (.bin (L + 1)) d l.tail with
        | none => rw [hc] at h; cases h
        | some v =>
          rw [hc] at h
          cases v with
          | error e => cases h
          | ok y =>
            obtain ⟨y, r1⟩ := y
            have i1 := ih _ _ _ _ _ htl hd hc (show L + 1 ≤ 5 by omega)
            have e : d + depA y (L + 1) ≤ 12 := i1.2.1
            have hx : TreeG (.bin (hdT l).t (hdT l).p y0 y) := by unfold TreeG; exact ⟨lvl_op hop, hy0, i1.1⟩
            have hdp := (dep_bin (p := (hdT l).p) (x := y0) (y := y) (lvl_of hL (any_mem hop))).2
            change (if L = 2 then PR.ok (Ex.bin (hdT l).t (hdT l).p y0 y, r1) else parseX true n (.loop L (.bin (hdT l).t (hdT l).p y0 y)) d r1) = some (.ok (x, r)) at h
            split at h
            · cases h
              exact ⟨hx, by show d + depA _ L ≤ 12; rw [hdp]; omega, fun t ht => tail_sub (i1.2.2 t ht)⟩
            · rename_i h2
              rw [if_neg h2] at hdp hdy
              have i2 := ih _ _ _ _ _ (fun t ht => htl t (i1.2.2 t ht)) hd h (show JobD (.loop L (.bin (hdT l).t (hdT l).p y0 y)) d from ⟨hL, hx, by rw [if_neg h2, hdp]; omega⟩)
              exact ⟨i2.1, i2.2.1, fun t ht => tail_sub (i1.2.2 t (i2.2.2 t ht))⟩
      · cases h
        refine ⟨hy0, ?_, fun t ht => ht⟩
        show d + depA x L ≤ 12
        have em : depA x L ≤ depA x (if L = 2 then 3 else L) := depA_mono x (by split <;> omega)
        omega
    | args f p acc =>
      obtain ⟨hf, hacc, hda⟩ : NameG f ∧ TreesG acc ∧ d + depsT acc ≤ 12 := hj
      simp only at h
      split at h
      · cases h
        refine ⟨by unfold TreeG; exact ⟨hf, hacc⟩, ?_, fun t ht => tail_sub ht⟩
        show d + depA (.call f p acc) 5 ≤ 13
        rw [depA_own (by show ¬ 5 < 5; omega)]
        unfold depT
        omega
      · split at h
        · cases h
        · have hl' : ∀ t ∈ (if acc = [] then l else l.tail), t ∈ l := fun t ht => by
            split at ht
            · exact ht
            · exact tail_sub ht
          cases hc : parseX true n (topJ true) d (if acc = [] then l else l.tail) with
          | none => rw [hc] at h; cases h
          | some v =>
            rw [hc] at h
            cases v with
            | error e => cases h
            | ok y =>
              obtain ⟨y, r1⟩ := y
              have i1 := ih (.bin 0) _ _ _ _ (fun t ht => hl t (hl' t ht)) hd hc (show 0 ≤ 5 by omega)
              have e : d + depA y 0 ≤ 12 := i1.2.1
              rw [depA_zero] at e
              have i2 := ih _ _ _ _ _ (fun t ht => hl t (hl' t (i1.2.2 t ht))) hd h (show JobD (.args f p (acc ++ [y])) d from ⟨hf, trees_add hacc i1.1, by rw [deps_add]; omega⟩)
              exact ⟨i2.1, i2.2.1, fun t ht => hl' t (i1.2.2 t (i2.2.2 t ht))⟩
    | un =>
      simp only at h
      split at h
      · split at h
        · cases h
        · cases hc : parseX true n .un (d + 1) l.tail with
          | none => rw [hc] at h; cases h
          | some v =>
            rw [hc] at h
            cases v with
            | error e => cases h
            | ok y =>
              obtain ⟨y, r1⟩ := y
              have i1 := ih _ _ _ _ _ htl (by omega) hc trivial
              cases h
              refine ⟨by unfold TreeG; exact i1.1, ?_, fun t ht => tail_sub (i1.2.2 t ht)⟩
              have e : d + 1 + depA y 5 ≤ 12 := i1.2.1
              show d + depA _ 5 ≤ 12
              rw [depA_own (by show ¬ 5 < 5; omega)]
              have e2 : depT (.un true (hdT l).p y) = 1 + depA y 5 := by unfold depT; rfl
              rw [e2]; omega
      · split at h
        · split at h
          · cases h
          · cases hc : parseX true n (topJ true) (d + 1) l.tail with
            | none => rw [hc] at h; cases h
            | some v =>
              rw [hc] at h
              cases v with
              | error e => cases h
              | ok y =>
                obtain ⟨y, r1⟩ := y
                have i1 := ih (.bin 0) _ _ _ _ htl (by omega) hc (show 0 ≤ 5 by omega)
                have e : d + 1 + depA y 0 ≤ 12 := i1.2.1
                rw [depA_zero] at e
                change (if isW (hdT r1) closeW = true then PR.ok (y, r1.tail) else PR.err 1 (hdT r1).p) = some (.ok (x, r)) at h
                split at h
                · cases h
                  refine ⟨i1.1, ?_, fun t ht => tail_sub (i1.2.2 t (tail_sub ht))⟩
                  show d + depA x 5 ≤ 12
                  have := depA_le x 5
                  omega
                · cases h
        · split at h
          · rename_i hk
            have hg : TokG (hdT l) := hd_g hl (by rcases hk with e | e <;> rw [e] <;> decide)
            cases hr : readP (hdT l).t with
            | none => rw [hr] at h; cases h
            | some v =>
              rw [hr] at h
              cases h
              refine ⟨by unfold TreeG; exact .inl ⟨_, hg, hk, (read_show hr).symm, hr⟩, ?_, fun t ht => tail_sub ht⟩
              show d + depA _ 5 ≤ 12
              rw [depA_own (by show ¬ 5 < 5; omega)]
              unfold depT; omega
          · split at h
            · cases h
              refine ⟨by unfold TreeG; exact .inr ⟨decide ((hdT l).t = trueW), by simp⟩, ?_, fun t ht => tail_sub ht⟩
              show d + depA _ 5 ≤ 12
              rw [depA_own (by show ¬ 5 < 5; omega)]
              unfold depT; omega
            · split at h
              · rename_i hn
                have hg : TokG (hdT l) := hd_g hl (by rw [hn.1]; decide)
                split at h
                · cases h
                · rename_i h12
                  have hng : NameG (hdT l).t := ⟨⟨_, hg, rfl, hn⟩, by omega⟩
                  split at h
                  · split at h
                    · cases h
                    · rename_i hd1
                      have i1 := ih _ _ _ _ _ (fun t ht => htl t (tail_sub ht)) (by omega) h (show JobD (.args (hdT l).t (hdT l).p []) (d + 1) from ⟨hng, by unfold TreesG; trivial, by unfold depsT; omega⟩)
                      refine ⟨i1.1, ?_, fun t ht => tail_sub (tail_sub (i1.2.2 t ht))⟩
                      have e : d + 1 + depA x 5 ≤ 13 := i1.2.1
                      show d + depA x 5 ≤ 12
                      omega
                  · cases h
                    refine ⟨by unfold TreeG; exact hng, ?_, fun t ht => tail_sub ht⟩
                    show d + depA _ 5 ≤ 12
                    rw [depA_own (by show ¬ 5 < 5; omega)]
                    unfold depT; omega
              · cases h

/-! the way back -/
def StopL (L : Nat) (rest : List Tok) : Prop := (∀ j, L ≤ j → j < 5 → (lvlOps j).any (isW (hdT rest)) = false) ∧ isW (hdT rest) openW = false
theorem StopL.mono {L L' : Nat} {rest : List Tok} (h : StopL L rest) (hl : L ≤ L') : StopL L' rest := ⟨fun j hj => h.1 j (Nat.le_trans hl hj), h.2⟩
def RA (x : Ex) (L : Nat) : Prop := ∀ (d : Nat) (l rest : List Tok), l.map Tok.kt = toksA x L → d + depA x L ≤ 12 → StopL L rest → ∃ x', SameE x x' ∧ Par true (.bin L) d (l ++ rest) (.ok (x', rest))
def RB (x : Ex) (L : Nat) : Prop := ∀ (d : Nat) (l rest : List Tok), l.map Tok.kt = toksA x L → d + depA x L ≤ 12 → StopL (L + 1) rest → ∃ x', SameE x x' ∧ ∀ s, Par true (.loop L x') d rest s → Par true (.bin L) d (l ++ rest) s
theorem ra_of_rb {x : Ex} {L : Nat} (hL : L < 5) (h : RB x L) : RA x L := fun d l rest hl hd hs => by
  obtain ⟨x', h1, h2⟩ := h d l rest hl hd (hs.mono (by omega))
  exact ⟨x', h1, h2 _ (par_loop_end (hs.1 L (Nat.le_refl _) hL))⟩
theorem toks_same {x : Ex} {L L' : Nat} (h : ownL x < L ↔ ownL x < L') : toksA x L = toksA x L' ∧ depA x L = depA x L' := by
  unfold toksA depA wrapT wrapD
  by_cases hx : ownL x < L
  · rw [if_pos hx, if_pos hx, if_pos (h.1 hx), if_pos (h.1 hx)]; exact ⟨rfl, rfl⟩
  · rw [if_neg hx, if_neg hx, if_neg (fun e => hx (h.2 e)), if_neg (fun e => hx (h.2 e))]; exact ⟨rfl, rfl⟩
/-- a text's head is no such word. -/
def HeadNe (s : List UInt8) (ts : List KT) : Prop := ∃ a r, ts = a :: r ∧ a.2 ≠ s
theorem HeadNe.app {s : List UInt8} {ts us : List KT} (h : HeadNe s ts) : HeadNe s (ts ++ us) := by
  obtain ⟨a, r, rfl, h⟩ := h
  exact ⟨a, r ++ us, rfl, h⟩
theorem HeadNe.hd {s : List UInt8} {ts : List KT} {l rest : List Tok} (h : HeadNe s ts) (hl : l.map Tok.kt = ts) : isW (hdT (l ++ rest)) s = false := by
  obtain ⟨a, r, rfl, h⟩ := h
  cases l with
  | nil => cases hl
  | cons t l =>
    rw [List.map_cons] at hl
    injection hl with h1 h2
    refine isW_t ?_
    show t.t ≠ s
    rw [← h1] at h
    exact h
theorem head_wrap {s : List UInt8} {own L : Nat} {ts : List KT} (ho : openW ≠ s) (h : ¬ own < L → HeadNe s ts) : HeadNe s (wrapT own L ts) := by
  unfold wrapT
  split
  · exact ⟨_, _, rfl, ho⟩
  · rename_i hn
    exact h hn
theorem show_true : showV ⟨2, 1, ⟨#[]⟩⟩ = trueW := by decide +kernel
theorem show_false : showV ⟨2, 0, ⟨#[]⟩⟩ = falseW := by decide +kernel
theorem lit_head {v : Val} (h : LitG v) : HeadNe notW [(kindC (showV v), showV v)] ∧ HeadNe closeW [(kindC (showV v), showV v)] := by
  have key : showV v ≠ notW ∧ showV v ≠ closeW := by
    rcases h with ⟨t, ht, hk, hs, -⟩ | ⟨b, rfl⟩
    · rw [← hs]
      rcases ht.1 with ⟨h1, -⟩ | ⟨h1, -⟩ | ⟨h1, c, r, h2, h3⟩ | ⟨h1, r, h2⟩ | ⟨h1, -⟩
      · rcases hk with e | e <;> rw [h1] at e <;> exact absurd e (by decide)
      · rcases hk with e | e <;> rw [h1] at e <;> exact absurd e (by decide)
      · rw [h2]
        exact ⟨fun e => by injection e with e; subst e; exact absurd h3 (by decide), fun e => by injection e with e; subst e; exact absurd h3 (by decide)⟩
      · rw [h2]
        exact ⟨fun e => by injection e with e; exact absurd e (by decide), fun e => by injection e with e; exact absurd e (by decide)⟩
      · rcases hk with e | e <;> rw [h1] at e <;> exact absurd e (by decide)
    · cases b
      · exact show_false ▸ ⟨by decide, by decide⟩
      · exact show_true ▸ ⟨by decide, by decide⟩
  exact ⟨⟨_, _, rfl, key.1⟩, ⟨_, _, rfl, key.2⟩⟩
theorem name_tok {s : List UInt8} (h : NameG s) {t : Tok} (hk : t.kt = (110, s)) : IsName t ∧ TokOk t ∧ t.t.length ≤ 12 ∧ t.t = s := by
  obtain ⟨⟨u, hu, rfl, hn⟩, hl⟩ := h
  obtain ⟨h1, h2⟩ : t.k = 110 ∧ t.t = u.t := by injection hk with h1 h2; exact ⟨h1, h2⟩
  refine ⟨⟨h1, by rw [h2]; exact hn.2⟩, ?_, by rw [h2]; exact hl, h2⟩
  rcases hu.1 with ⟨e, -⟩ | ⟨e, he⟩ | ⟨e, -⟩ | ⟨e, -⟩ | ⟨e, -⟩
  · rw [hn.1] at e; exact absurd e (by decide)
  · exact .inr (.inl ⟨h1, by rw [h2]; exact he⟩)
  · rw [hn.1] at e; exact absurd e (by decide)
  · rw [hn.1] at e; exact absurd e (by decide)
  · rw [hn.1] at e; exact absurd e (by decide)
theorem name_ne {s : List UInt8} (h : NameG s) : s ≠ notW ∧ s ≠ closeW := by
  obtain ⟨⟨u, hu, rfl, hn⟩, hl⟩ := h
  refine ⟨fun e => hn.2 (by rw [e]; decide), fun e => ?_⟩
  rcases hu.1 with ⟨e', -⟩ | ⟨e', c, r, h1, h2⟩ | ⟨e', -⟩ | ⟨e', -⟩ | ⟨e', -⟩
  · rw [hn.1] at e'; exact absurd e' (by decide)
  · rw [h1] at e; injection e with e; subst e; exact absurd h2 (by decide)
  · rw [hn.1] at e'; exact absurd e' (by decide)
  · rw [hn.1] at e'; exact absurd e' (by decide)
  · rw [hn.1] at e'; exact absurd e' (by decide)
theorem level_lt {o : List UInt8} (ho : o ∈ opsW) : levelO o < 5 ∧ o ∈ lvlOps (levelO o) := by
  rcases opsW_cases ho with rfl | rfl | rfl | rfl | rfl | rfl | rfl | rfl | rfl | rfl | rfl | rfl | rfl | rfl <;> decide
theorem head_close : ∀ x : Ex, TreeG x → HeadNe closeW (rawT x)
  | .lit v, h => by unfold TreeG at h; unfold rawT; exact (lit_head h).2
  | .name s p, h => by unfold TreeG at h; unfold rawT; exact ⟨_, _, rfl, (name_ne h).2⟩
  | .un neg p x, h => by unfold rawT; cases neg <;> exact ⟨_, _, rfl, by decide⟩
  | .bin o p x y, h => by
    unfold TreeG at h
    unfold rawT
    exact (head_wrap (by decide) fun _ => head_close x h.2.1).app
  | .call f p l, h => by unfold TreeG at h; unfold rawT; exact ⟨_, _, rfl, (name_ne h.1).2⟩
theorem head_not : ∀ x : Ex, TreeG x → 3 ≤ ownL x → HeadNe notW (rawT x)
  | .lit v, h, _ => by unfold TreeG at h; unfold rawT; exact (lit_head h).1
  | .name s p, h, _ => by unfold TreeG at h; unfold rawT; exact ⟨_, _, rfl, (name_ne h).1⟩
  | .un neg p x, h, ho => by
    unfold rawT
    cases neg
    · exact absurd ho (by show ¬ 3 ≤ 2; omega)
    · exact ⟨_, _, rfl, by decide⟩
  | .bin o p x y, h, ho => by
    unfold TreeG at h
    unfold rawT
    have ho : 3 ≤ levelO o := ho
    exact (head_wrap (by decide) fun hn => head_not x h.2.1 (by unfold leftL at hn; split at hn <;> omega)).app
  | .call f p l, h, _ => by unfold TreeG at h; unfold rawT; exact ⟨_, _, rfl, (name_ne h.1).1⟩
theorem rb_lift {x : Ex} {L : Nat} (hx : TreeG x) (hL : L < 5) (ho : L + 1 ≤ ownL x ∨ ownL x < L) (h : RA x (L + 1)) : RB x L := fun d l rest hl hd hs => by
  obtain ⟨e1, e2⟩ := toks_same (x := x) (L := L) (L' := L + 1) (by omega)
  obtain ⟨x', h1, h2⟩ := h d l rest (by rw [← e1]; exact hl) (by rw [← e2]; exact hd) hs
  refine ⟨x', h1, fun s hs => par_bin_go hL (fun ⟨hL2, hw⟩ => ?_) h2 hs⟩
  have hh : HeadNe notW (toksA x L) := by
    unfold toksA
    exact head_wrap (by decide) fun hn => head_not x hx (by omega)
  rw [hh.hd hl] at hw
  cases hw
theorem bin5_un {d : Nat} {l : List Tok} {s : Res} (h : Par true (.bin 5) d l s) : Par true .un d l s := by
  obtain ⟨n, h⟩ := h
  cases n with
  | zero => unfold parseX at h; cases h
  | succ n =>
    unfold parseX at h
    rw [if_pos (by omega)] at h
    exact ⟨n, h⟩
theorem kt_sign {t : Tok} {s : List UInt8} (h : t.kt = (111, s)) : isW t s = true ∧ t.t = s ∧ t.k = 111 := by
  obtain ⟨h1, h2⟩ : t.k = 111 ∧ t.t = s := by injection h with h1 h2; exact ⟨h1, h2⟩
  refine ⟨?_, h2, h1⟩
  unfold isW
  rw [h1, h2]
  simp
theorem stop_sign {t : Tok} {r : List Tok} {L : Nat} (h : t.t = closeW ∨ t.t = commaW) : StopL L (t :: r) := by
  refine ⟨fun j _ hj => ?_, isW_t (show t.t ≠ openW by rcases h with h | h <;> rw [h] <;> decide)⟩
  show (lvlOps j).any (isW t) = false
  rw [any_isW]
  have : t.t ∉ lvlOps j := by
    rcases h with h | h
    · rw [h]
      match j, hj with
      | 0, _ => decide
      | 1, _ => decide
      | 2, _ => decide
      | 3, _ => decide
      | 4, _ => decide
    · rw [h]
      match j, hj with
      | 0, _ => decide
      | 1, _ => decide
      | 2, _ => decide
      | 3, _ => decide
      | 4, _ => decide
  simp [this]
/-- brackets. -/
theorem ra_wrap {x : Ex} (ho : ownL x < 5) (h : RA x 0) : RA x 5 := fun d l rest hl hd hs => by
  unfold toksA wrapT at hl
  rw [if_pos ho] at hl
  have hd' : d + 1 + depA x 0 ≤ 12 := by
    rw [depA_zero]
    unfold depA wrapD at hd
    rw [if_pos ho] at hd
    omega
  cases l with
  | nil => cases hl
  | cons t l =>
    rw [List.map_cons] at hl
    injection hl with h1 h2
    obtain ⟨l1, l2, rfl, h3, h4⟩ := List.map_eq_append_iff.1 h2
    cases l2 with
    | nil => cases h4
    | cons c l2 =>
      rw [List.map_cons] at h4
      injection h4 with h4 h5
      obtain rfl := List.map_eq_nil_iff.1 h5
      have hc := kt_sign h4
      obtain ⟨x', e1, e2⟩ := h (d + 1) l1 (c :: rest) (by rw [h3]; unfold toksA wrapT; rw [if_neg (by omega)]) hd' (stop_sign (.inl hc.2.1))
      refine ⟨x', e1, par_bin_un ?_⟩
      show Par true .un d (t :: (l1 ++ [c] ++ rest)) _
      rw [List.append_assoc]
      refine par_brackets (kt_sign h1).1 ?_
      rw [if_neg (by omega)]
      refine ⟨_, e2, ?_⟩
      unfold closeR
      show _ = if isW c closeW = true then _ else _
      rw [if_pos hc.1]
      rfl
/-- all levels, from what holds at a tree's own. -/
theorem down {P : Nat → Prop} {top bot : Nat} (h : P top) (step : ∀ L, bot ≤ L → L < top → P (L + 1) → P L) : ∀ k L, L + k = top → bot ≤ L → P L
  | 0, L, hk, _ => by obtain rfl : L = top := by omega
                      exact h
  | k + 1, L, hk, hb => step L hb (by omega) (down h step k (L + 1) (by omega) (by omega))
def RAll (x : Ex) : Prop := ∀ L, L ≤ 5 → RA x L ∧ (L < 5 → L ≠ 2 → RB x L)
theorem rall_of {x : Ex} (hx : TreeG x) (h5 : ownL x ≤ 5) (h : RA x (ownL x) ∧ (ownL x < 5 → ownL x ≠ 2 → RB x (ownL x))) : RAll x := by
  have low : ∀ L, L ≤ ownL x → RA x L ∧ (L < 5 → L ≠ 2 → RB x L) := fun L hL =>
    down (P := fun L => RA x L ∧ (L < 5 → L ≠ 2 → RB x L)) (bot := 0) h (fun L _ hl hP => have hb := rb_lift hx (by omega) (.inl hl) hP.1
      ⟨ra_of_rb (by omega) hb, fun _ _ => hb⟩) (ownL x - L) L (by omega) (by omega)
  intro L hL
  by_cases ho : L ≤ ownL x
  · exact low L ho
  · exact down (P := fun L => RA x L ∧ (L < 5 → L ≠ 2 → RB x L)) (top := 5) (bot := ownL x + 1) ⟨ra_wrap (by omega) (low 0 (by omega)).1, fun h => absurd h (by omega)⟩ (fun L hb hl hP => have hb := rb_lift hx (by omega) (.inr (by omega)) hP.1
      ⟨ra_of_rb (by omega) hb, fun _ _ => hb⟩) (5 - L) L (by omega) (by omega)
theorem own_le : ∀ {x : Ex}, TreeG x → ownL x ≤ 5
  | .lit _, _ => Nat.le_refl _
  | .name _ _, _ => Nat.le_refl _
  | .un neg _ _, _ => by show (if neg = true then 5 else 2) ≤ 5; split <;> omega
  | .bin o _ _ _, h => by unfold TreeG at h; exact Nat.le_of_lt (level_lt h.1).1
  | .call _ _ _, _ => Nat.le_refl _
theorem one_map {l : List Tok} {a : KT} (h : l.map Tok.kt = [a]) : ∃ t, l = [t] ∧ t.kt = a := by
  cases l with
  | nil => cases h
  | cons t l =>
    rw [List.map_cons] at h
    injection h with h1 h2
    exact ⟨t, by rw [List.map_eq_nil_iff.1 h2], h1⟩
theorem lit_kind {v : Val} (h : LitG v) {t : Tok} (ht : t.kt = (kindC (showV v), showV v)) : (∃ d : Nat, True) ∧ ((t.k = 48 ∨ t.k = 39) ∧ readP t.t = some v ∨ ¬ (t.k = 48 ∨ t.k = 39) ∧ (t.t = trueW ∨ t.t = falseW) ∧ v = ⟨2, if t.t = trueW then 1 else 0, ⟨#[]⟩⟩) := by
  obtain ⟨h1, h2⟩ : t.k = kindC (showV v) ∧ t.t = showV v := by injection ht with h1 h2; exact ⟨h1, h2⟩
  refine ⟨⟨0, trivial⟩, ?_⟩
  rcases h with ⟨u, hu, hk, hs, hr⟩ | ⟨b, rfl⟩
  · refine .inl ⟨?_, by rw [h2, ← hs]; exact hr⟩
    rw [h1, ← hs]
    rcases hu.1 with ⟨e, -⟩ | ⟨e, -⟩ | ⟨-, c, r, e2, e3⟩ | ⟨-, r, e2⟩ | ⟨e, -⟩
    · rcases hk with k | k <;> rw [e] at k <;> exact absurd k (by decide)
    · rcases hk with k | k <;> rw [e] at k <;> exact absurd k (by decide)
    · rw [e2]
      left
      show (if digitB c = true then (48 : UInt8) else _) = 48
      rw [if_pos e3]
    · rw [e2]
      right
      rfl
    · rcases hk with k | k <;> rw [e] at k <;> exact absurd k (by decide)
  · right
    cases b
    · rw [h1, h2]
      simp only [Bool.false_eq_true, if_false]
      rw [show_false]
      exact ⟨by decide, .inr rfl, by rw [if_neg (by decide)]⟩
    · rw [h1, h2]
      simp only [if_true]
      rw [show_true]
      exact ⟨by decide, .inl rfl, by rw [if_pos rfl]⟩
theorem toks_own {x : Ex} {L : Nat} (h : ¬ ownL x < L) : toksA x L = rawT x := by unfold toksA wrapT; rw [if_neg h]
theorem ra_lit {v : Val} (h : LitG v) : RA (.lit v) 5 := fun d l rest hl hd hs => by
  rw [toks_own (by show ¬ 5 < 5; omega)] at hl
  unfold rawT at hl
  obtain ⟨t, rfl, ht⟩ := one_map hl
  refine ⟨.lit v, by unfold SameE; rfl, par_bin_un ?_⟩
  rcases (lit_kind h ht).2 with ⟨hk, hr⟩ | ⟨hk, hb, hv⟩
  · exact par_lit hk hr
  · have := par_bool (d := d) (r := rest) hk hb
    rw [← hv] at this
    exact this
theorem ra_name {s : List UInt8} {p : Nat} (h : NameG s) : RA (.name s p) 5 := fun d l rest hl hd hs => by
  rw [toks_own (by show ¬ 5 < 5; omega)] at hl
  unfold rawT at hl
  obtain ⟨t, rfl, ht⟩ := one_map hl
  obtain ⟨h1, h2, h3, rfl⟩ := name_tok h ht
  exact ⟨.name t.t t.p, by unfold SameE; exact ⟨_, rfl⟩, par_bin_un (par_name h1 h2 (by omega) hs.2)⟩
theorem ra_neg {x : Ex} {p : Nat} (h : RA x 5) : RA (.un true p x) 5 := fun d l rest hl hd hs => by
  rw [toks_own (by show ¬ 5 < 5; omega)] at hl
  rw [depA_own (by show ¬ 5 < 5; omega)] at hd
  unfold rawT at hl
  unfold depT at hd
  cases l with
  | nil => cases hl
  | cons t l =>
    rw [List.map_cons] at hl
    injection hl with h1 h2
    have hd' : d + 1 + depA x 5 ≤ 12 := by
      have : depA x 5 = wrapD (ownL x) (kidL true) (depT x) := rfl
      omega
    obtain ⟨x', e1, e2⟩ := h (d + 1) l rest h2 hd' hs
    refine ⟨.un true t.p x', by unfold SameE; exact ⟨_, _, rfl, e1⟩, par_bin_un (par_minus (kt_sign h1).1 ?_)⟩
    rw [if_neg (by omega)]
    exact ⟨_, bin5_un e2, rfl⟩
theorem ra_not {x : Ex} {p : Nat} (h : RA x 2) : RA (.un false p x) 2 := fun d l rest hl hd hs => by
  rw [toks_own (by show ¬ 2 < 2; omega)] at hl
  rw [depA_own (by show ¬ 2 < 2; omega)] at hd
  unfold rawT at hl
  unfold depT at hd
  cases l with
  | nil => cases hl
  | cons t l =>
    rw [List.map_cons] at hl
    injection hl with h1 h2
    have hd' : d + 1 + depA x 2 ≤ 12 := by
      have : depA x 2 = wrapD (ownL x) (kidL false) (depT x) := rfl
      omega
    obtain ⟨x', e1, e2⟩ := h (d + 1) l rest h2 hd' hs
    have hw : isW t notW = true := by
      obtain ⟨k1, k2⟩ : t.k = 110 ∧ t.t = notW := by injection h1 with k1 k2; exact ⟨k1, k2⟩
      unfold isW
      rw [k1, k2]
      rfl
    refine ⟨.un false t.p x', by unfold SameE; exact ⟨_, _, rfl, e1⟩, par_bin_not hw ?_⟩
    rw [if_neg (by omega)]
    exact ⟨_, e2, rfl⟩
theorem op_isW {o : List UInt8} (ho : o ∈ opsW) {t : Tok} (ht : t.kt = (opK o, o)) {L : Nat} (hL : levelO o = L) : (lvlOps L).any (isW t) = true ∧ t.t = o ∧ ∀ r, StopL (L + 1) (t :: r) := by
  obtain ⟨h1, h2⟩ : t.k = opK o ∧ t.t = o := by injection ht with h1 h2; exact ⟨h1, h2⟩
  have hk : t.k = 110 ∨ t.k = 111 := by
    rw [h1]
    unfold opK
    split <;> simp
  have hkk : (t.k == 111 || t.k == 110) = true := by rcases hk with h | h <;> rw [h] <;> rfl
  refine ⟨?_, h2, fun r => ⟨fun j hj hj5 => ?_, isW_t ?_⟩⟩
  · rw [any_isW, hkk, h2, ← hL]
    simp [(level_lt ho).2]
  · show (lvlOps j).any (isW t) = false
    rw [any_isW, h2]
    have : o ∉ lvlOps j := fun hm => by have := lvl_of hj5 hm; omega
    simp [this]
  · show t.t ≠ openW
    rw [h2]
    intro e
    rw [e] at ho
    exact absurd ho (by decide)
theorem bin_split {o : List UInt8} {p : Nat} {x y : Ex} {l : List Tok} (hl : l.map Tok.kt = rawT (.bin o p x y)) : ∃ l1 t l2, l = l1 ++ t :: l2 ∧ l1.map Tok.kt = toksA x (leftL o) ∧ t.kt = (opK o, o) ∧ l2.map Tok.kt = toksA y (levelO o + 1) := by
  unfold rawT at hl
  obtain ⟨l1, l2, rfl, h1, h2⟩ := List.map_eq_append_iff.1 hl
  cases l2 with
  | nil => cases h2
  | cons t l2 =>
    rw [List.map_cons] at h2
    injection h2 with h2 h3
    exact ⟨l1, t, l2, rfl, h1, h2, h3⟩
theorem rb_bin {o : List UInt8} {p : Nat} {x y : Ex} (ho : o ∈ opsW) (h2 : levelO o ≠ 2) (hx : RB x (levelO o)) (hy : RA y (levelO o + 1)) : RB (.bin o p x y) (levelO o) := fun d l rest hl hd hs => by
  rw [toks_own (by show ¬ levelO o < levelO o; omega)] at hl
  rw [(dep_bin rfl).2, if_neg h2] at hd
  obtain ⟨l1, t, l2, rfl, e1, e2, e3⟩ := bin_split hl
  have hle : leftL o = levelO o := by unfold leftL; rw [if_neg h2]
  rw [hle] at e1
  obtain ⟨g1, g2, g3⟩ := op_isW ho e2 rfl
  obtain ⟨x', k1, k2⟩ := hx d l1 (t :: (l2 ++ rest)) e1 (by omega) (g3 _)
  obtain ⟨y', k3, k4⟩ := hy d l2 rest e3 (by omega) hs
  refine ⟨.bin o t.p x' y', by unfold SameE; exact ⟨_, _, _, rfl, k1, k3⟩, fun s hp => ?_⟩
  rw [List.append_assoc]
  refine k2 s (par_loop_go g1 k4 ?_)
  rw [if_neg h2, g2]
  exact hp
theorem ra_bin2 {o : List UInt8} {p : Nat} {x y : Ex} (ho : o ∈ opsW) (h2 : levelO o = 2) (gx : TreeG x) (hx : RA x 3) (hy : RA y 3) : RA (.bin o p x y) 2 := fun d l rest hl hd hs => by
  rw [toks_own (by show ¬ levelO o < 2; omega)] at hl
  rw [(dep_bin h2).2, if_pos rfl] at hd
  have hd : d + max (depA x 3) (depA y 3) ≤ 12 := hd
  obtain ⟨l1, t, l2, rfl, e1, e2, e3⟩ := bin_split hl
  have hle : leftL o = 3 := by unfold leftL; rw [if_pos h2]
  rw [hle] at e1
  rw [h2] at e3
  obtain ⟨g1, g2, g3⟩ := op_isW ho e2 h2
  obtain ⟨x', k1, k2⟩ := hx d l1 (t :: (l2 ++ rest)) e1 (by omega) (g3 _)
  obtain ⟨y', k3, k4⟩ := hy d l2 rest e3 (by omega) (hs.mono (by omega))
  refine ⟨.bin o t.p x' y', by unfold SameE; exact ⟨_, _, _, rfl, k1, k3⟩, ?_⟩
  rw [List.append_assoc]
  refine par_bin_go (by omega) (fun ⟨_, hw⟩ => ?_) k2 (par_loop_go g1 k4 ?_)
  · have hh : HeadNe notW (toksA x 3) := by
      unfold toksA
      exact head_wrap (by decide) fun hn => head_not x gx (by omega)
    have := hh.hd (rest := t :: l2 ++ rest) e1
    rw [this] at hw
    cases hw
  · rw [if_pos rfl, g2]
theorem raws_head {xs : List Ex} {l : List Tok} (h : l.map Tok.kt = rawsT true xs) {c : Tok} {r : List Tok} (hc : c.t = closeW) : StopL 0 (l ++ c :: r) := by
  cases xs with
  | nil =>
    unfold rawsT at h
    obtain rfl := List.map_eq_nil_iff.1 h
    exact stop_sign (.inl hc)
  | cons x xs =>
    unfold rawsT at h
    cases l with
    | nil => cases h
    | cons t l =>
      rw [List.map_cons] at h
      injection h with h1 _
      exact stop_sign (.inr (kt_sign h1).2.1)
theorem sames_nil : SamesE [] [] := by unfold SamesE; rfl
theorem rt_args : ∀ (xs : List Ex), TreesG xs → (∀ x ∈ xs, RA x 0) → ∀ (f : List UInt8) (p : Nat) (acc : List Ex) (d : Nat) (l r : List Tok) (c : Tok), l.map Tok.kt = rawsT (decide (acc ≠ [])) xs → d + depsT xs ≤ 12 → isW c closeW = true → c.t = closeW →
    ∃ xs', SamesE xs xs' ∧ Par true (.args f p acc) d (l ++ c :: r) (.ok (.call f p (acc ++ xs'), r))
  | [], _, _, f, p, acc, d, l, r, c, hl, hd, hc, hct => by
    unfold rawsT at hl
    obtain rfl := List.map_eq_nil_iff.1 hl
    refine ⟨[], sames_nil, ?_⟩
    rw [List.append_nil]
    exact par_args_close hc
  | x :: xs, hg, hx, f, p, acc, d, l, r, c, hl, hd, hc, hct => by
    unfold TreesG at hg
    unfold depsT at hd
    have fin : ∀ (l1 l2 : List Tok), l1.map Tok.kt = rawT x → l2.map Tok.kt = rawsT true xs → ∃ x', SameE x x' ∧ Par true (.bin 0) d (l1 ++ (l2 ++ c :: r)) (.ok (x', l2 ++ c :: r)) ∧ ∃ xs', SamesE xs xs' ∧ Par true (.args f p (acc ++ [x'])) d (l2 ++ c :: r) (.ok (.call f p (acc ++ [x'] ++ xs'), r)) := fun l1 l2 h1 h2 => by
      obtain ⟨x', k1, k2⟩ := hx x (by simp) d l1 (l2 ++ c :: r) (by rw [h1, toks_own (by omega)]) (by rw [depA_zero]; omega) (raws_head h2 hct)
      obtain ⟨xs', k3, k4⟩ := rt_args xs hg.2 (fun y hy => hx y (by simp [hy])) f p (acc ++ [x']) d l2 r c (by rw [h2]; simp) (by omega) hc hct
      exact ⟨x', k1, k2, xs', k3, k4⟩
    have hh := head_close x hg.1
    unfold rawsT at hl
    by_cases ha : acc = []
    · rw [decide_eq_false (by simp [ha])] at hl
      obtain ⟨l1, l2, rfl, h1, h2⟩ := List.map_eq_append_iff.1 (show l.map Tok.kt = rawT x ++ rawsT true xs from hl)
      obtain ⟨x', k1, k2, xs', k3, k4⟩ := fin l1 l2 h1 h2
      refine ⟨x' :: xs', by unfold SamesE; exact ⟨_, _, rfl, k1, k3⟩, ?_⟩
      have hcl := hh.hd (rest := l2 ++ c :: r) h1
      rw [List.append_assoc]
      rw [List.append_assoc, List.singleton_append] at k4
      cases l1 with
      | nil => obtain ⟨a, q, e, -⟩ := hh; rw [e] at h1; cases h1
      | cons t l1 => exact par_args_go hcl (.inl ha) (by rw [if_pos ha]; exact k2) k4
    · rw [decide_eq_true (show acc ≠ [] from ha)] at hl
      cases l with
      | nil => cases hl
      | cons t l =>
        rw [List.map_cons] at hl
        injection hl with h0 hl
        obtain ⟨l1, l2, rfl, h1, h2⟩ := List.map_eq_append_iff.1 (show l.map Tok.kt = rawT x ++ rawsT true xs from hl)
        obtain ⟨x', k1, k2, xs', k3, k4⟩ := fin l1 l2 h1 h2
        refine ⟨x' :: xs', by unfold SamesE; exact ⟨_, _, rfl, k1, k3⟩, ?_⟩
        have h0' := kt_sign h0
        rw [List.append_assoc, List.singleton_append] at k4
        show Par true (.args f p acc) d (t :: (l1 ++ l2 ++ c :: r)) _
        rw [List.append_assoc]
        exact par_args_go (isW_t (by rw [h0'.2.1]; decide)) (.inr h0'.1) (by rw [if_neg ha]; exact k2) k4
theorem ra_call {f : List UInt8} {p : Nat} {xs : List Ex} (hf : NameG f) (hg : TreesG xs) (hx : ∀ x ∈ xs, RA x 0) : RA (.call f p xs) 5 := fun d l rest hl hd hs => by
  rw [toks_own (by show ¬ 5 < 5; omega)] at hl
  rw [depA_own (by show ¬ 5 < 5; omega)] at hd
  unfold rawT at hl
  unfold depT at hd
  cases l with
  | nil => cases hl
  | cons t l =>
    rw [List.map_cons] at hl
    injection hl with h1 hl
    cases l with
    | nil => cases hl
    | cons u l =>
      rw [List.map_cons] at hl
      injection hl with h2 hl
      obtain ⟨l1, l2, rfl, h3, h4⟩ := List.map_eq_append_iff.1 hl
      obtain ⟨c, rfl, hc⟩ := one_map h4
      obtain ⟨n1, n2, n3, rfl⟩ := name_tok hf h1
      have hcc := kt_sign hc
      obtain ⟨xs', k1, k2⟩ := rt_args xs hg hx t.t t.p [] (d + 1) l1 rest c (by rw [h3]; rfl) (by omega) hcc.1 hcc.2.1
      refine ⟨.call t.t t.p xs', by unfold SameE; exact ⟨_, _, rfl, k1⟩, par_bin_un ?_⟩
      show Par true .un d (t :: u :: (l1 ++ [c] ++ rest)) _
      rw [List.append_assoc]
      refine par_callq n1 n2 (by omega) (kt_sign h2).1 ?_
      rw [if_neg (by omega)]
      exact k2
mutual
theorem rt_all : ∀ x : Ex, TreeG x → RAll x
  | .lit v, h => rall_of h (own_le h) ⟨ra_lit (by unfold TreeG at h; exact h), fun hl => absurd hl (by show ¬ 5 < 5; omega)⟩
  | .name s p, h => rall_of h (own_le h) ⟨ra_name (by unfold TreeG at h; exact h), fun hl => absurd hl (by show ¬ 5 < 5; omega)⟩
  | .un true p x, h => by
    have hx := rt_all x (by unfold TreeG at h; exact h)
    exact rall_of h (own_le h) ⟨ra_neg (hx 5 (by omega)).1, fun hl => absurd hl (by show ¬ 5 < 5; omega)⟩
  | .un false p x, h => by
    have hx := rt_all x (by unfold TreeG at h; exact h)
    exact rall_of h (own_le h) ⟨ra_not (hx 2 (by omega)).1, fun _ hl => absurd rfl hl⟩
  | .bin o p x y, h => by
    have h' := h
    unfold TreeG at h'
    have hx := rt_all x h'.2.1
    have hy := rt_all y h'.2.2
    have hl := (level_lt h'.1).1
    by_cases h2 : levelO o = 2
    · refine rall_of h (own_le h) ⟨?_, fun _ hl => absurd h2 hl⟩
      show RA _ (levelO o)
      rw [h2]
      exact ra_bin2 h'.1 h2 h'.2.1 (hx 3 (by omega)).1 (hy 3 (by omega)).1
    · have hb := rb_bin (p := p) h'.1 h2 ((hx (levelO o) (by omega)).2 hl h2) (hy (levelO o + 1) (by omega)).1
      exact rall_of h (own_le h) ⟨ra_of_rb hl hb, fun _ _ => hb⟩
  | .call f p l, h => by
    have h' := h
    unfold TreeG at h'
    have hl := rts_all l h'.2
    exact rall_of h (own_le h) ⟨ra_call h'.1 h'.2 fun x hx => (hl x hx 0 (by omega)).1, fun hl => absurd hl (by show ¬ 5 < 5; omega)⟩
theorem rts_all : ∀ l : List Ex, TreesG l → ∀ x ∈ l, RAll x
  | [], _, _, h => absurd h (by simp)
  | y :: l, hg, x, h => by
    unfold TreesG at hg
    rcases List.mem_cons.1 h with h | h
    · rw [h]; exact rt_all y hg.1
    · exact rts_all l hg.2 x h
end
end Go.Proofs.YtgajofkeidjbgaaGreatDoor
