/-
  PROVED HERE: expressions in plain Lean: what the document says of values and of how a tree is written is what the program makes.
  PROVED HERE: in plain Lean: the trees that the parser makes are well formed; the parser uses only tokens it was given.
-/
import Derived.Test.YtgajofkeidjbgaaGreatDoorGTabExpr
import Derived.Test.YtgajofkeidjbgaaGreatDoorGLexPlain
namespace Go.Proofs.YtgajofkeidjbgaaGreatDoor
set_option linter.unusedSimpArgs false
set_option linter.unusedVariables false
open Go Go.RowKit

abbrev minusN : List UInt8 := [109, 105, 110, 117, 115]
abbrev callN : List UInt8 := [99, 97, 108, 108]
/-- the document's values without nulls. -/
def strictD (what name : List UInt8) (a b : Val) : Val :=
  if what = andW then truthV true else if what = orW then truthV false else if what = notW then truthV (decide (a.n = 0)) else if what = minusN then intV (wrap64 (-a.n))
  else if what = [61] then truthV (decide (a = b)) else if what = [60, 62] then truthV (decide (a ≠ b)) else if what = [60] then truthV (beforeV a b)
  else if what = [60, 61] then truthV (beforeV a b || decide (a = b)) else if what = [62] then truthV (!beforeV a b && decide (a ≠ b)) else if what = [62, 61] then truthV (!beforeV a b)
  else if what = catW then textV ((a.t.data.toList ++ b.t.data.toList).take 60)
  else if what = [43] then intV (wrap64 (a.n + b.n)) else if what = [45] then intV (wrap64 (a.n - b.n)) else if what = [42] then intV (wrap64 (a.n * b.n))
  else if what = [47] ∨ what = [37] then (if b.n = 0 then nothing else if what = [47] then intV (wrap64 (a.n.tdiv b.n)) else intV (wrap64 (a.n.tmod b.n)))
  else if name = lenW then intV a.t.size else if name = absW then (if a.n < 0 then intV (wrap64 (-a.n)) else a)
  else textV (a.t.data.toList.take (if (a.t.size : Int) < (if b.n < 0 then 0 else b.n) then (a.t.size : Int) else if b.n < 0 then 0 else b.n).toNat)
def docV (what name : List UInt8) (v0 v1 v2 : Val) (nulls : Nat) : Val :=
  if what = andW ∧ (v0 = truthV false ∨ v1 = truthV false) then truthV false
  else if what = orW ∧ (v0 = truthV true ∨ v1 = truthV true) then truthV true
  else if what = callN ∧ name = isnullW then truthV (decide (nulls = 1))
  else if what = callN ∧ name = coalW then (if v0.k = 0 then v1 else v0)
  else if what = callN ∧ name = ifW then (if v0 = truthV true then v1 else v2)
  else if 0 < nulls then nothing else strictD what name v0 v1
def nullN (l : List Val) : Nat := (l.filter fun v => decide (v.k = 0)).length

theorem before_irr (x : Val) : beforeV x x = false := by
  have h := bytes_tri (str x.t) (str x.t)
  unfold beforeV
  rw [if_pos rfl, if_pos rfl]
  cases hb : Op.bytesLess (str x.t) (str x.t) with
  | false => rfl
  | true => rw [hb] at h; simp at h
theorem eqV_iff (x y : Val) : eqV x y = true ↔ x = y := by
  rw [← signI_zero (l := beforeV x y), ← compareV_eq]
  exact compareV_total.eq x y
theorem cmp_lt (x y : Val) : compareV x y < 0 ↔ beforeV x y = true := by
  rw [compareV_eq]
  cases he : eqV x y with
  | true =>
    obtain rfl := (eqV_iff x y).1 he
    rw [before_irr]; simp [signI]
  | false => cases beforeV x y <;> simp [signI]
theorem cmp_zero (x y : Val) : compareV x y = 0 ↔ x = y := compareV_total.eq x y
theorem null_is {v : Val} {k : Int} (h : ValOf v k) (h0 : v.k = 0) : v = nothing := by
  rcases valid_cases h.1 with h | ⟨h, -⟩ | h | h | ⟨h, -⟩
  · exact h
  · omega
  · rw [h] at h0; exact absurd h0 (by decide)
  · rw [h] at h0; exact absurd h0 (by decide)
  · rw [h] at h0; exact absurd h0 (by show ¬ (3 : Int) = 0; decide)
theorem bool_is {v : Val} (h : ValOf v 2) : v = nothing ∨ v = truthV false ∨ v = truthV true := by
  rcases valid_cases h.1 with h' | ⟨h', -⟩ | h' | h' | ⟨h', -⟩
  · exact .inl h'
  · rcases h.2.2 with h2 | h2 <;> omega
  · exact .inr (.inl h')
  · exact .inr (.inr h')
  · have : v.k = 3 := by rw [h']; rfl
    rcases h.2.2 with h2 | h2 <;> omega
theorem int_is {v : Val} (h : ValOf v 1) (h0 : v.k ≠ 0) : v = intV v.n := by
  rcases valid_cases h.1 with h' | ⟨h1, h2⟩ | h' | h' | ⟨h', -⟩
  · rw [h'] at h0; exact absurd rfl h0
  · cases v; simp only at h1 h2; subst h1 h2; rfl
  · have : v.k = 2 := by rw [h']
    rcases h.2.2 with h2 | h2 <;> omega
  · have : v.k = 2 := by rw [h']
    rcases h.2.2 with h2 | h2 <;> omega
  · have : v.k = 3 := by rw [h']; rfl
    rcases h.2.2 with h2 | h2 <;> omega
theorem nulls2 (a b : Val) : 0 < nullN [a, b] ↔ (a.k = 0 ∨ b.k = 0) := by
  unfold nullN
  by_cases h1 : a.k = 0 <;> by_cases h2 : b.k = 0 <;> simp [h1, h2]
theorem doc_un {neg : Bool} {v : Val} {nm : List UInt8} (h : ValOf v (if neg = true then 1 else 2)) :
    docV (if neg = true then minusN else notW) nm v nothing nothing (nullN [v]) = if v.k = 0 then v else if neg = true then intV (wrap64 (-v.n)) else truthV (decide (v.n = 0)) := by
  by_cases h0 : v.k = 0
  · rw [if_pos h0]
    obtain rfl := null_is h h0
    cases neg <;> rfl
  · rw [if_neg h0]
    have hn : nullN [v] = 0 := by unfold nullN; simp [h0]
    rw [hn]
    cases neg <;> rfl
theorem doc_bin {o nm : List UInt8} (ho : o ∈ opsW) {a b : Val} {ka kb k : Int} (ha : ValOf a ka) (hb : ValOf b kb) (h : binK o ka kb = some k) : docV o nm a b nothing (nullN [a, b]) = binV o a b := by
  rcases opsW_cases ho with rfl | rfl | rfl | rfl | rfl | rfl | rfl | rfl | rfl | rfl | rfl | rfl | rfl | rfl
  · have h : (if ka = 2 ∧ kb = 2 then some (2 : Int) else none) = some k := h
    split at h
    · rename_i hk
      obtain ⟨rfl, rfl⟩ := hk
      rcases bool_is ha with rfl | rfl | rfl <;> rcases bool_is hb with rfl | rfl | rfl <;> rfl
    · cases h
  · have h : (if ka = 2 ∧ kb = 2 then some (2 : Int) else none) = some k := h
    split at h
    · rename_i hk
      obtain ⟨rfl, rfl⟩ := hk
      rcases bool_is ha with rfl | rfl | rfl <;> rcases bool_is hb with rfl | rfl | rfl <;> rfl
    · cases h
  all_goals
    clear ho h ha hb
    by_cases hn : a.k = 0 ∨ b.k = 0
    · have h1 : 0 < nullN [a, b] := (nulls2 a b).2 hn
      have e1 : ∀ o, o ≠ andW → o ≠ orW → o ≠ callN → docV o nm a b nothing (nullN [a, b]) = nothing := fun o g1 g2 g3 => by
        unfold docV
        rw [if_neg (fun h => g1 h.1), if_neg (fun h => g2 h.1), if_neg (fun h => g3 h.1), if_neg (fun h => g3 h.1), if_neg (fun h => g3 h.1), if_pos h1]
      have e2 : ∀ o, o ≠ andW → o ≠ orW → binV o a b = nothing := fun o g1 g2 => by unfold binV; rw [if_neg g1, if_neg g2, if_pos hn]
      rw [e1 _ (by decide) (by decide) (by decide), e2 _ (by decide) (by decide)]
    · have h1 : ¬ 0 < nullN [a, b] := fun h => hn ((nulls2 a b).1 h)
      have e1 : ∀ o, o ≠ andW → o ≠ orW → o ≠ callN → docV o nm a b nothing (nullN [a, b]) = strictD o nm a b := fun o g1 g2 g3 => by
        unfold docV
        rw [if_neg (fun h => g1 h.1), if_neg (fun h => g2 h.1), if_neg (fun h => g3 h.1), if_neg (fun h => g3 h.1), if_neg (fun h => g3 h.1), if_neg h1]
      have e2 : ∀ o, o ≠ andW → o ≠ orW → binV o a b = arithV o a b := fun o g1 g2 => by unfold binV; rw [if_neg g1, if_neg g2, if_neg hn]
      rw [e1 _ (by decide) (by decide) (by decide), e2 _ (by decide) (by decide)]
      have c1 : decide (compareV a b = 0) = decide (a = b) := by rw [Bool.eq_iff_iff]; simp [cmp_zero]
      have c2 : decide (compareV a b ≠ 0) = decide (a ≠ b) := by rw [Bool.eq_iff_iff]; simp [cmp_zero]
      have c3 : decide (compareV a b < 0) = beforeV a b := by rw [Bool.eq_iff_iff]; simp [cmp_lt]
      have c4 : decide (compareV a b ≤ 0) = (beforeV a b || decide (a = b)) := by
        rw [Bool.eq_iff_iff]; simp only [Bool.or_eq_true, decide_eq_true_eq, ← cmp_lt, ← cmp_zero]; omega
      have c5 : decide (0 < compareV a b) = (!beforeV a b && decide (a ≠ b)) := by
        rw [← c3, ← c2]; rw [Bool.eq_iff_iff]; simp; omega
      have c6 : decide (0 ≤ compareV a b) = !beforeV a b := by
        rw [← c3]; rw [Bool.eq_iff_iff]; simp
      first
        | rfl
        | (show truthV (decide (a = b)) = truthV (decide (compareV a b = 0)); rw [c1])
        | (show truthV (decide (a ≠ b)) = truthV (decide (compareV a b ≠ 0)); rw [c2])
        | (show truthV (beforeV a b) = truthV (decide (compareV a b < 0)); rw [c3])
        | (show truthV (beforeV a b || decide (a = b)) = truthV (decide (compareV a b ≤ 0)); rw [c4])
        | (show truthV (!beforeV a b && decide (a ≠ b)) = truthV (decide (0 < compareV a b)); rw [c5])
        | (show truthV (!beforeV a b) = truthV (decide (0 ≤ compareV a b)); rw [c6])
theorem doc_call {f : List UInt8} {l : List Val} {ks : List Int} {k : Int} (hl : l.length = ks.length) (hv : ∀ i (h : i < l.length) (h' : i < ks.length), ValOf l[i] ks[i]) (h3 : ∀ k ∈ ks, K3 k) (h : callK f ks = some k) :
    docV callN f (l.getD 0 nothing) (l.getD 1 nothing) (l.getD 2 nothing) (nullN l) = callV f l := by
  rw [call_same h3] at h
  unfold callD at h
  have pass : ∀ v0 v1 v2 n, f ≠ isnullW → f ≠ coalW → f ≠ ifW → docV callN f v0 v1 v2 n = if 0 < n then nothing else strictD callN f v0 v1 := fun v0 v1 v2 n g1 g2 g3 => by
    unfold docV
    rw [if_neg (fun h => absurd h.1 (by decide)), if_neg (fun h => absurd h.1 (by decide)), if_neg (fun h => g1 h.2), if_neg (fun h => g2 h.2), if_neg (fun h => g3 h.2)]
  have nul : ∀ l : List Val, (0 < nullN l) = (anyNull l = true) := fun l => by
    unfold nullN anyNull
    rw [List.length_pos_iff_exists_mem]
    simp
  by_cases h1 : f = lenW
  · rw [if_pos h1] at h
    split at h
    · rename_i hk
      subst h1 hk
      match l, hl with
      | [a], _ =>
        rw [pass _ _ _ _ (by decide) (by decide) (by decide)]
        simp only [nul]
        rfl
    · cases h
  rw [if_neg h1] at h
  by_cases h2 : f = absW
  · rw [if_pos h2] at h
    split at h
    · rename_i hk
      subst h2 hk
      match l, hl with
      | [a], _ =>
        have hva := hv 0 (by simp) (by simp)
        simp only [List.getElem_cons_zero] at hva
        rw [pass _ _ _ _ (by decide) (by decide) (by decide)]
        simp only [nul]
        show (if anyNull [a] = true then nothing else if a.n < 0 then intV (wrap64 (-a.n)) else a) = if anyNull [a] = true then nothing else intV (max a.n (wrap64 (-a.n)))
        by_cases hn : anyNull [a] = true
        · rw [if_pos hn, if_pos hn]
        · rw [if_neg hn, if_neg hn]
          have ha : a.k ≠ 0 := fun e => hn (by simp [anyNull, e])
          have ho := hva.2.1
          unfold IntOk at ho
          by_cases hneg : a.n < 0
          · rw [if_pos hneg]
            congr 1
            have : a.n ≤ wrap64 (-a.n) := by unfold wrap64; omega
            omega
          · rw [if_neg hneg]
            have e : max a.n (wrap64 (-a.n)) = a.n := by
              have : wrap64 (-a.n) ≤ a.n := by unfold wrap64; omega
              omega
            rw [e]
            exact int_is hva ha
    · cases h
  rw [if_neg h2] at h
  by_cases h3' : f = cutW
  · rw [if_pos h3'] at h
    split at h
    · rename_i hk
      subst h3' hk
      match l, hl with
      | [a, b], _ =>
        rw [pass _ _ _ _ (by decide) (by decide) (by decide)]
        simp only [nul]
        show (if anyNull [a, b] = true then nothing else textV (a.t.data.toList.take _)) = if anyNull [a, b] = true then nothing else textV (a.t.data.toList.take _)
        congr 3
        show Int.toNat (if (a.t.size : Int) < (if b.n < 0 then 0 else b.n) then (a.t.size : Int) else if b.n < 0 then 0 else b.n) = (max 0 (min (a.t.size : Int) b.n)).toNat
        split <;> split <;> omega
    · cases h
  rw [if_neg h3'] at h
  by_cases h4 : f = isnullW
  · rw [if_pos h4] at h
    split at h
    · rename_i hk
      subst h4
      match l, hl, hk with
      | [a], _, _ =>
        show truthV (decide (nullN [a] = 1)) = truthV (decide (a.k = 0))
        unfold nullN
        by_cases h0 : a.k = 0 <;> simp [h0]
      | [], hl, hk => simp at hl; omega
      | _ :: _ :: _, hl, hk => simp at hl; omega
    · cases h
  rw [if_neg h4] at h
  by_cases h5 : f = coalW
  · subst h5
    rfl
  rw [if_neg h5] at h
  by_cases h6 : f = ifW
  · subst h6
    rfl
  · rw [if_neg h6] at h; cases h

/-! how a tree is written -/
def brk (b : Bool) (l : List UInt8) : List UInt8 := if b = true then 40 :: (l ++ [41]) else l
mutual
def printP : Ex → Nat → List UInt8
  | .lit v, _ => showV v
  | .name s _, _ => s
  | .un neg _ x, L => brk (decide ((if neg = true then 5 else 2) < L)) ((if neg = true then [45] else [110, 111, 116, 32]) ++ printP x (if neg = true then 5 else 2))
  | .bin o _ x y, L => brk (decide (levelO o < L)) (printP x (if levelO o = 2 then 3 else levelO o) ++ (32 :: (o ++ [32]) ++ printP y (levelO o + 1)))
  | .call f _ l, _ => f ++ [40] ++ (printsP false l ++ [41])
def printsP : Bool → List Ex → List UInt8
  | _, [] => []
  | more, x :: l => (if more = true then [44, 32] else []) ++ (printP x 0 ++ printsP true l)
end
mutual
def printD : Ex → Nat → List UInt8
  | .lit v, q => brk (decide (9 < q)) (showV v)
  | .name s _, q => brk (decide (9 < q)) s
  | .un neg _ x, q => brk (decide ((if neg = true then 7 else 3) < q)) ((if neg = true then [45] else [110, 111, 116, 32]) ++ printD x (if neg = true then 7 else 3))
  | .bin o _ x y, q => brk (decide (powS o < q)) (printD x (if powS o = 4 then 5 else powS o) ++ (32 :: (o ++ [32]) ++ printD y (powS o + 1)))
  | .call f _ l, q => brk (decide (9 < q)) (f ++ [40] ++ (printsD false l ++ [41]))
def printsD : Bool → List Ex → List UInt8
  | _, [] => []
  | more, x :: l => (if more = true then [44, 32] else []) ++ (printD x 0 ++ printsD true l)
end
def Corr (L q : Nat) : Prop := L ≤ 5 ∧ (q = leastL L ∨ (L = 0 ∧ q = 1))
theorem corr_least {L : Nat} (h : L ≤ 5) : Corr L (leastL L) := ⟨h, .inl rfl⟩
theorem Corr.vals {L q : Nat} (h : Corr L q) : (L = 0 ∧ (q = 0 ∨ q = 1)) ∨ (L = 1 ∧ q = 2) ∨ (L = 2 ∧ q = 3) ∨ (L = 3 ∧ q = 5) ∨ (L = 4 ∧ q = 6) ∨ (L = 5 ∧ q = 7) := by
  obtain ⟨h1, h2⟩ := h
  match L, h1, h2 with
  | 0, _, h2 => rcases h2 with h2 | h2
                · exact .inl ⟨rfl, .inl h2⟩
                · exact .inl ⟨rfl, .inr h2.2⟩
  | 1, _, h2 => rcases h2 with h2 | h2
                · exact .inr (.inl ⟨rfl, h2⟩)
                · omega
  | 2, _, h2 => rcases h2 with h2 | h2
                · exact .inr (.inr (.inl ⟨rfl, h2⟩))
                · omega
  | 3, _, h2 => rcases h2 with h2 | h2
                · exact .inr (.inr (.inr (.inl ⟨rfl, h2⟩)))
                · omega
  | 4, _, h2 => rcases h2 with h2 | h2
                · exact .inr (.inr (.inr (.inr (.inl ⟨rfl, h2⟩))))
                · omega
  | 5, _, h2 => rcases h2 with h2 | h2
                · exact .inr (.inr (.inr (.inr (.inr ⟨rfl, h2⟩))))
                · omega
theorem op_corr {o : List UInt8} (ho : o ∈ opsW) : (levelO o = 0 ∧ powS o = 1) ∨ (levelO o = 1 ∧ powS o = 2) ∨ (levelO o = 2 ∧ powS o = 4) ∨ (levelO o = 3 ∧ powS o = 5) ∨ (levelO o = 4 ∧ powS o = 6) := by
  rcases opsW_cases ho with rfl | rfl | rfl | rfl | rfl | rfl | rfl | rfl | rfl | rfl | rfl | rfl | rfl | rfl <;> decide
mutual
theorem print_same : ∀ (x : Ex) (L q : Nat), ExOk x → Corr L q → printP x L = printD x q
  | .lit v, L, q, _, hc => by
    unfold printP printD brk
    have := hc.vals
    rw [if_neg (by simp; omega)]
  | .name s p, L, q, _, hc => by
    unfold printP printD brk
    have := hc.vals
    rw [if_neg (by simp; omega)]
  | .un neg p x, L, q, ho, hc => by
    unfold ExOk at ho
    unfold printP printD
    have hv := hc.vals
    cases neg with
    | true =>
      simp only [if_true]
      rw [print_same x 5 7 ho ⟨by omega, .inl rfl⟩]
      congr 1
      rw [Bool.eq_iff_iff]; simp; omega
    | false =>
      simp only [Bool.false_eq_true, if_false]
      rw [print_same x 2 3 ho ⟨by omega, .inl rfl⟩]
      congr 1
      rw [Bool.eq_iff_iff]; simp; omega
  | .bin o p x y, L, q, ho, hc => by
    unfold ExOk at ho
    unfold printP printD
    have hv := hc.vals
    have hp := op_corr ho.1
    have e1 : Corr (if levelO o = 2 then 3 else levelO o) (if powS o = 4 then 5 else powS o) := by
      rcases hp with ⟨h1, h2⟩ | ⟨h1, h2⟩ | ⟨h1, h2⟩ | ⟨h1, h2⟩ | ⟨h1, h2⟩ <;> rw [h1, h2]
      · exact ⟨by simp, .inr ⟨rfl, rfl⟩⟩
      · exact ⟨by simp, .inl rfl⟩
      · exact ⟨by simp, .inl rfl⟩
      · exact ⟨by simp, .inl rfl⟩
      · exact ⟨by simp, .inl rfl⟩
    have e2 : Corr (levelO o + 1) (powS o + 1) := by
      rcases hp with ⟨h1, h2⟩ | ⟨h1, h2⟩ | ⟨h1, h2⟩ | ⟨h1, h2⟩ | ⟨h1, h2⟩ <;> rw [h1, h2] <;> exact ⟨by simp, .inl rfl⟩
    rw [print_same x _ _ ho.2.1 e1, print_same y _ _ ho.2.2 e2]
    congr 1
    rw [Bool.eq_iff_iff]; simp; omega
  | .call f p l, L, q, ho, hc => by
    unfold ExOk at ho
    unfold printP printD
    have hv := hc.vals
    rw [prints_same l false ho]
    unfold brk
    rw [if_neg (by simp; omega)]
theorem prints_same : ∀ (l : List Ex) (more : Bool), ExsOk l → printsP more l = printsD more l
  | [], _, _ => by unfold printsP printsD; rfl
  | x :: l, more, ho => by
    unfold ExsOk at ho
    unfold printsP printsD
    rw [print_same x 0 0 ho.1 ⟨by omega, .inl rfl⟩, prints_same l true ho.2]
end
end Go.Proofs.YtgajofkeidjbgaaGreatDoor
namespace Go.Proofs.YtgajofkeidjbgaaGreatDoor
set_option linter.unusedSimpArgs false
set_option linter.unusedVariables false
open Go Go.RowKit

theorem itoa_head {n : Int} {c : UInt8} {r : List UInt8} (h : Lib.itoa n = c :: r) : c = 45 ∨ (48 ≤ c.toNat ∧ c.toNat ≤ 57) := by
  unfold Lib.itoa at h
  split at h
  · left; cases h; rfl
  · right
    exact dec_digits n.toNat c (by rw [h]; simp)
/-- what a literal's text says of its value. -/
theorem read_first {c : UInt8} {r : List UInt8} {v : Val} (h : readP (c :: r) = some v) : validV v = true ∧ IntOk v ∧ (digitB c = true → v.k = 1) ∧ (c = 39 → v.k = 3) := by
  unfold readP at h
  split at h
  · rename_i hs
    have hv : guessP (c :: r) = v := Option.some.inj h
    have ho := guess_ok (c :: r)
    rw [hv] at hs ho
    have hval := show_ne (x := v) (by rw [hs]; simp)
    refine ⟨hval, ho, ?_⟩
    rcases valid_cases hval with rfl | ⟨hk, -⟩ | rfl | rfl | ⟨hx, -⟩
    · have : showV nothing = [110, 117, 108, 108] := by decide +kernel
      rw [this] at hs; cases hs
      exact ⟨fun h => absurd h (by decide), fun h => absurd h (by decide)⟩
    · rw [show_int hval hk] at hs
      refine ⟨fun _ => hk, fun hc => ?_⟩
      rcases itoa_head hs with h' | h'
      · rw [hc] at h'; exact absurd h' (by decide)
      · rw [hc] at h'; exact absurd h' (by decide)
    · have : showV ⟨2, 0, ByteArray.empty⟩ = [102, 97, 108, 115, 101] := by decide +kernel
      rw [this] at hs; cases hs
      exact ⟨fun h => absurd h (by decide), fun h => absurd h (by decide)⟩
    · have : showV ⟨2, 1, ByteArray.empty⟩ = [116, 114, 117, 101] := by decide +kernel
      rw [this] at hs; cases hs
      exact ⟨fun h => absurd h (by decide), fun h => absurd h (by decide)⟩
    · have hk : v.k = 3 := by rw [hx]; rfl
      rw [show_text hval hk] at hs
      unfold quoteL at hs
      cases hs
      exact ⟨fun h => absurd h (by decide), fun _ => hk⟩
  · cases h
theorem read_tok {t : Tok} (ht : TokOk t) (hk : t.k = 48 ∨ t.k = 39) {v : Val} (h : readP t.t = some v) : validV v = true ∧ IntOk v ∧ (v.k = 1 ∨ v.k = 2 ∨ v.k = 3) ∧ (t.k = 48 → v.k = 1) := by
  rcases ht with ⟨h1, _⟩ | ⟨h1, _⟩ | ⟨h1, c, r, h2, h3⟩ | ⟨h1, r, h2⟩ | ⟨h1, _⟩
  · rcases hk with e | e <;> rw [h1] at e <;> exact absurd e (by decide)
  · rcases hk with e | e <;> rw [h1] at e <;> exact absurd e (by decide)
  · rw [h2] at h
    have := read_first h
    exact ⟨this.1, this.2.1, .inl (this.2.2.1 h3), fun _ => this.2.2.1 h3⟩
  · rw [h2] at h
    have := read_first h
    exact ⟨this.1, this.2.1, .inr (.inr (this.2.2.2 rfl)), fun e => by rw [h1] at e; exact absurd e (by decide)⟩
  · rcases hk with e | e <;> rw [h1] at e <;> exact absurd e (by decide)
theorem exs_add : ∀ {l : List Ex} {x : Ex}, ExsOk l → ExOk x → ExsOk (l ++ [x])
  | [], _, _, hx => by show ExsOk [_]; unfold ExsOk; exact ⟨hx, by unfold ExsOk; trivial⟩
  | y :: l, x, h, hx => by
    unfold ExsOk at h
    show ExsOk (y :: (l ++ [x]))
    unfold ExsOk
    exact ⟨h.1, exs_add h.2 hx⟩
def JobOk : Job → Prop
  | .loop _ x => ExOk x
  | .cloop _ _ _ x => ExOk x
  | .args _ _ acc => ExsOk acc
  | _ => True
theorem lvl_op {L : Nat} {t : Tok} (h : (lvlOps L).any (isW t) = true) : t.t ∈ opsW := by
  rw [any_isW] at h
  simp only [Bool.and_eq_true, decide_eq_true_eq] at h
  have h1 := h.1
  revert h1
  match L with
  | 0 => exact fun h => by simp only [lvlOps, List.mem_cons, List.not_mem_nil, or_false] at h; simp [opsW, h]
  | 1 => exact fun h => by simp only [lvlOps, List.mem_cons, List.not_mem_nil, or_false] at h; simp [opsW, h]
  | 2 => exact fun h => by simp only [lvlOps, List.mem_cons, List.not_mem_nil, or_false] at h; rcases h with h | h | h | h | h | h <;> simp [opsW, h]
  | 3 => exact fun h => by simp only [lvlOps, List.mem_cons, List.not_mem_nil, or_false] at h; rcases h with h | h | h <;> simp [opsW, h]
  | 4 => exact fun h => by simp only [lvlOps, List.mem_cons, List.not_mem_nil, or_false] at h; rcases h with h | h | h <;> simp [opsW, h]
  | _ + 5 => exact fun h => by simp [lvlOps] at h
theorem tail_sub {l : List Tok} {t : Tok} (h : t ∈ l.tail) : t ∈ l := List.mem_of_mem_tail h
theorem hd_ok {l : List Tok} (h : ∀ t ∈ l, TokOk t) : TokOk (hdT l) ∨ hdT l = ⟨0, [], 0⟩ := by
  cases l with
  | nil => exact .inr rfl
  | cons t r => exact .inl (h t (by simp))
theorem parse_ok : ∀ (n : Nat) (j : Job) (d : Nat) (l : List Tok) (x : Ex) (r : List Tok), (∀ t ∈ l, TokOk t) → parseX true n j d l = some (.ok (x, r)) → JobOk j → ExOk x ∧ ∀ t ∈ r, t ∈ l
  | 0, _, _, _, _, _, _, h, _ => by unfold parseX at h; cases h
  | n + 1, j, d, l, x, r, hl, h, hj => by
    have ih := parse_ok n
    have htl : ∀ t ∈ l.tail, TokOk t := fun t ht => hl t (tail_sub ht)
    unfold parseX at h
    cases j with
    | climb q =>
      simp only at h
      split at h
      · split at h
        · cases h
        · cases hc : parseX true n (.climb 3) (d + 1) l.tail with
          | none => rw [hc] at h; cases h
          | some v =>
            rw [hc] at h
            cases v with
            | error e => cases h
            | ok y =>
              obtain ⟨y, r1⟩ := y
              have i1 := ih _ _ _ _ _ htl hc trivial
              have i2 := ih _ _ _ _ _ (fun t ht => htl t (i1.2 t ht)) h (show ExOk (.un false (hdT l).p y) by unfold ExOk; exact i1.1)
              exact ⟨i2.1, fun t ht => tail_sub (i1.2 t (i2.2 t ht))⟩
      · cases hc : parseX true n .un d l with
        | none => rw [hc] at h; cases h
        | some v =>
          rw [hc] at h
          cases v with
          | error e => cases h
          | ok y =>
            obtain ⟨y, r1⟩ := y
            have i1 := ih _ _ _ _ _ hl hc trivial
            have i2 := ih _ _ _ _ _ (fun t ht => hl t (i1.2 t ht)) h (show ExOk y from i1.1)
            exact ⟨i2.1, fun t ht => i1.2 t (i2.2 t ht)⟩
    | cloop q m f y0 =>
      simp only at h
      split at h
      · cases h; exact ⟨hj, fun t ht => ht⟩
      · rename_i hh
        have hop : (hdT l).t ∈ opsW := by
          have hp : powT (hdT l) ≠ 0 := fun e => hh (.inl e)
          have hv := powT_vals (hdT l)
          have : ∃ L, L < 5 ∧ powT (hdT l) = powL L := by
            rcases hv with h | h | h | h | h | h
            · exact absurd h hp
            · exact ⟨0, by omega, h⟩
            · exact ⟨1, by omega, h⟩
            · exact ⟨2, by omega, h⟩
            · exact ⟨3, by omega, h⟩
            · exact ⟨4, by omega, h⟩
          obtain ⟨L, hL, e⟩ := this
          exact lvl_op ((lvl_pow _ hL).2 e)
        cases hc : parseX true n (.climb (powT (hdT l) + 1)) d l.tail with
        | none => rw [hc] at h; cases h
        | some v =>
          rw [hc] at h
          cases v with
          | error e => cases h
          | ok y =>
            obtain ⟨y, r1⟩ := y
            have i1 := ih _ _ _ _ _ htl hc trivial
            have i2 := ih _ _ _ _ _ (fun t ht => htl t (i1.2 t ht)) h (show ExOk (.bin (hdT l).t (hdT l).p y0 y) by unfold ExOk; exact ⟨hop, hj, i1.1⟩)
            exact ⟨i2.1, fun t ht => tail_sub (i1.2 t (i2.2 t ht))⟩
    | bin L =>
      simp only at h
      split at h
      · exact ih _ _ _ _ _ hl h trivial
      · split at h
        · split at h
          · cases h
          · cases hc : parseX true n (.bin 2) (d + 1) l.tail with
            | none => rw [hc] at h; cases h
            | some v =>
              rw [hc] at h
              cases v with
              | error e => cases h
              | ok y =>
                obtain ⟨y, r1⟩ := y
                have i1 := ih _ _ _ _ _ htl hc trivial
                cases h
                exact ⟨by unfold ExOk; exact i1.1, fun t ht => tail_sub (i1.2 t ht)⟩
        · cases hc : parseX true n (.bin (L + 1)) d l with
          | none => rw [hc] at h; cases h
          | some v =>
            rw [hc] at h
            cases v with
            | error e => cases h
            | ok y =>
              obtain ⟨y, r1⟩ := y
              have i1 := ih _ _ _ _ _ hl hc trivial
              have i2 := ih _ _ _ _ _ (fun t ht => hl t (i1.2 t ht)) h (show ExOk y from i1.1)
              exact ⟨i2.1, fun t ht => i1.2 t (i2.2 t ht)⟩
    | loop L y0 =>
      simp only at h
      split at h
      · rename_i hop
        cases hc : parseX true n (.bin (L + 1)) d l.tail with
        | none => rw [hc] at h; cases h
        | some v =>
          rw [hc] at h
          cases v with
          | error e => cases h
          | ok y =>
            obtain ⟨y, r1⟩ := y
            have i1 := ih _ _ _ _ _ htl hc trivial
            have hx : ExOk (.bin (hdT l).t (hdT l).p y0 y) := by unfold ExOk; exact ⟨lvl_op hop, hj, i1.1⟩
            change (if L = 2 then PR.ok (Ex.bin (hdT l).t (hdT l).p y0 y, r1) else parseX true n (.loop L (.bin (hdT l).t (hdT l).p y0 y)) d r1) = some (.ok (x, r)) at h
            split at h
            · cases h
              exact ⟨hx, fun t ht => tail_sub (i1.2 t ht)⟩
            · have i2 := ih _ _ _ _ _ (fun t ht => htl t (i1.2 t ht)) h (show JobOk (.loop L (.bin (hdT l).t (hdT l).p y0 y)) from hx)
              exact ⟨i2.1, fun t ht => tail_sub (i1.2 t (i2.2 t ht))⟩
      · cases h; exact ⟨hj, fun t ht => ht⟩
    | args f p acc =>
      simp only at h
      split at h
      · cases h
        exact ⟨by unfold ExOk; exact hj, fun t ht => tail_sub ht⟩
      · split at h
        · cases h
        · cases hc : parseX true n (topJ true) d (if acc = [] then l else l.tail) with
          | none => rw [hc] at h; cases h
          | some v =>
            rw [hc] at h
            cases v with
            | error e => cases h
            | ok y =>
              obtain ⟨y, r1⟩ := y
              have hsub : ∀ t ∈ (if acc = [] then l else l.tail), t ∈ l := fun t ht => by
                split at ht
                · exact ht
                · exact tail_sub ht
              have i1 := ih _ _ _ _ _ (fun t ht => hl t (hsub t ht)) hc trivial
              have i2 := ih _ _ _ _ _ (fun t ht => hl t (hsub t (i1.2 t ht))) h (show JobOk (.args f p (acc ++ [y])) from exs_add hj i1.1)
              exact ⟨i2.1, fun t ht => hsub t (i1.2 t (i2.2 t ht))⟩
    | un =>
      simp only at h
      split at h
      · split at h
        · cases h
        · cases hc : parseX true n .un (d + 1) l.tail with
          | none => rw [hc] at h; cases h
          | some v =>
            rw [hc] at h
            cases v with
            | error e => cases h
            | ok y =>
              obtain ⟨y, r1⟩ := y
              have i1 := ih _ _ _ _ _ htl hc trivial
              cases h
              exact ⟨by unfold ExOk; exact i1.1, fun t ht => tail_sub (i1.2 t ht)⟩
      · split at h
        · split at h
          · cases h
          · cases hc : parseX true n (topJ true) (d + 1) l.tail with
            | none => rw [hc] at h; cases h
            | some v =>
              rw [hc] at h
              cases v with
              | error e => cases h
              | ok y =>
                obtain ⟨y, r1⟩ := y
                have i1 := ih _ _ _ _ _ htl hc trivial
                change (if isW (hdT r1) closeW = true then PR.ok (y, r1.tail) else PR.err 1 (hdT r1).p) = some (.ok (x, r)) at h
                split at h
                · cases h
                  exact ⟨i1.1, fun t ht => tail_sub (i1.2 t (tail_sub ht))⟩
                · cases h
        · split at h
          · rename_i hk
            rcases hd_ok hl with ho | ho
            · cases hr : readP (hdT l).t with
              | none => rw [hr] at h; cases h
              | some v =>
                rw [hr] at h
                cases h
                have := read_tok ho hk hr
                exact ⟨by unfold ExOk; exact ⟨this.1, this.2.1, this.2.2.1⟩, fun t ht => tail_sub ht⟩
            · rw [ho] at hk
              rcases hk with e | e <;> exact absurd e (by decide)
          · split at h
            · cases h
              refine ⟨?_, fun t ht => tail_sub ht⟩
              unfold ExOk
              split
              · exact ⟨by decide +kernel, by unfold IntOk; simp, .inr (.inl rfl)⟩
              · exact ⟨by decide +kernel, by unfold IntOk; simp, .inr (.inl rfl)⟩
            · split at h
              · split at h
                · cases h
                · split at h
                  · split at h
                    · cases h
                    · have i1 := ih _ _ _ _ _ (fun t ht => htl t (tail_sub ht)) h (show JobOk (.args (hdT l).t (hdT l).p []) by show ExsOk []; unfold ExsOk; trivial)
                      exact ⟨i1.1, fun t ht => tail_sub (tail_sub (i1.2 t ht))⟩
                  · cases h
                    exact ⟨by unfold ExOk; trivial, fun t ht => tail_sub ht⟩
              · cases h
end Go.Proofs.YtgajofkeidjbgaaGreatDoor
