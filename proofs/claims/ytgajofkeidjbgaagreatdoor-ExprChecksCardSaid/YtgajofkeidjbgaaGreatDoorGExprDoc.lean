/-
  PROVED HERE: expressions in plain Lean: what the document says of values and of how a tree is written is what the program makes.
  PROVED HERE: the document's trees and its reading of tokens in memory.
  PROVED HERE: the document's trees in memory: their heads, their parts.
-/
import Derived.Test.YtgajofkeidjbgaaGreatDoorGOrdTotal
import Derived.Test.YtgajofkeidjbgaaGreatDoorGTabExpr
namespace Go.Proofs.YtgajofkeidjbgaaGreatDoor
set_option linter.unusedSimpArgs false
set_option linter.unusedVariables false
open Go Go.RowKit

abbrev minusN : List UInt8 := [109, 105, 110, 117, 115]
abbrev callN : List UInt8 := [99, 97, 108, 108]
/-- the document's values without nulls. -/
def strictD (what name : List UInt8) (a b : Val) : Val :=
  if what = andW then truthV true else if what = orW then truthV false else if what = notW then truthV (decide (a.n = 0)) else if what = minusN then intV (wrap64 (-a.n))
  else if what = [61] then truthV (decide (a = b)) else if what = [60, 62] then truthV (decide (a ≠ b)) else if what = [60] then truthV (beforeV a b)
  else if what = [60, 61] then truthV (beforeV a b || decide (a = b)) else if what = [62] then truthV (!beforeV a b && decide (a ≠ b)) else if what = [62, 61] then truthV (!beforeV a b)
  else if what = catW then textV ((a.t.data.toList ++ b.t.data.toList).take 60)
  else if what = [43] then intV (wrap64 (a.n + b.n)) else if what = [45] then intV (wrap64 (a.n - b.n)) else if what = [42] then intV (wrap64 (a.n * b.n))
  else if what = [47] ∨ what = [37] then (if b.n = 0 then nothing else if what = [47] then intV (wrap64 (a.n.tdiv b.n)) else intV (wrap64 (a.n.tmod b.n)))
  else if name = lenW then intV a.t.size else if name = absW then (if a.n < 0 then intV (wrap64 (-a.n)) else a)
  else textV (a.t.data.toList.take (if (a.t.size : Int) < (if b.n < 0 then 0 else b.n) then (a.t.size : Int) else if b.n < 0 then 0 else b.n).toNat)
def docV (what name : List UInt8) (v0 v1 v2 : Val) (nulls : Nat) : Val :=
  if what = andW ∧ (v0 = truthV false ∨ v1 = truthV false) then truthV false
  else if what = orW ∧ (v0 = truthV true ∨ v1 = truthV true) then truthV true
  else if what = callN ∧ name = isnullW then truthV (decide (nulls = 1))
  else if what = callN ∧ name = coalW then (if v0.k = 0 then v1 else v0)
  else if what = callN ∧ name = ifW then (if v0 = truthV true then v1 else v2)
  else if 0 < nulls then nothing else strictD what name v0 v1
def nullN (l : List Val) : Nat := (l.filter fun v => decide (v.k = 0)).length

theorem before_irr (x : Val) : beforeV x x = false := by
  have h := bytes_tri (str x.t) (str x.t)
  unfold beforeV
  rw [if_pos rfl, if_pos rfl]
  cases hb : Op.bytesLess (str x.t) (str x.t) with
  | false => rfl
  | true => rw [hb] at h; simp at h
theorem eqV_iff (x y : Val) : eqV x y = true ↔ x = y := by
  rw [← signI_zero (l := beforeV x y), ← compareV_eq]
  exact compareV_total.eq x y
theorem cmp_lt (x y : Val) : compareV x y < 0 ↔ beforeV x y = true := by
  rw [compareV_eq]
  cases he : eqV x y with
  | true =>
    obtain rfl := (eqV_iff x y).1 he
    rw [before_irr]; simp [signI]
  | false => cases beforeV x y <;> simp [signI]
theorem cmp_zero (x y : Val) : compareV x y = 0 ↔ x = y := compareV_total.eq x y
theorem null_is {v : Val} {k : Int} (h : ValOf v k) (h0 : v.k = 0) : v = nothing := by
  rcases valid_cases h.1 with h | ⟨h, -⟩ | h | h | ⟨h, -⟩
  · exact h
  · omega
  · rw [h] at h0; exact absurd h0 (by decide)
  · rw [h] at h0; exact absurd h0 (by decide)
  · rw [h] at h0; exact absurd h0 (by show ¬ (3 : Int) = 0; decide)
theorem bool_is {v : Val} (h : ValOf v 2) : v = nothing ∨ v = truthV false ∨ v = truthV true := by
  rcases valid_cases h.1 with h' | ⟨h', -⟩ | h' | h' | ⟨h', -⟩
  · exact .inl h'
  · rcases h.2.2 with h2 | h2 <;> omega
  · exact .inr (.inl h')
  · exact .inr (.inr h')
  · have : v.k = 3 := by rw [h']; rfl
    rcases h.2.2 with h2 | h2 <;> omega
theorem int_is {v : Val} (h : ValOf v 1) (h0 : v.k ≠ 0) : v = intV v.n := by
  rcases valid_cases h.1 with h' | ⟨h1, h2⟩ | h' | h' | ⟨h', -⟩
  · rw [h'] at h0; exact absurd rfl h0
  · cases v; simp only at h1 h2; subst h1 h2; rfl
  · have : v.k = 2 := by rw [h']
    rcases h.2.2 with h2 | h2 <;> omega
  · have : v.k = 2 := by rw [h']
    rcases h.2.2 with h2 | h2 <;> omega
  · have : v.k = 3 := by rw [h']; rfl
    rcases h.2.2 with h2 | h2 <;> omega
theorem nulls2 (a b : Val) : 0 < nullN [a, b] ↔ (a.k = 0 ∨ b.k = 0) := by
  unfold nullN
  by_cases h1 : a.k = 0 <;> by_cases h2 : b.k = 0 <;> simp [h1, h2]
theorem doc_un {neg : Bool} {v : Val} {nm : List UInt8} (h : ValOf v (if neg = true then 1 else 2)) :
    docV (if neg = true then minusN else notW) nm v nothing nothing (nullN [v]) = if v.k = 0 then v else if neg = true then intV (wrap64 (-v.n)) else truthV (decide (v.n = 0)) := by
  by_cases h0 : v.k = 0
  · rw [if_pos h0]
    obtain rfl := null_is h h0
    cases neg <;> rfl
  · rw [if_neg h0]
    have hn : nullN [v] = 0 := by unfold nullN; simp [h0]
    rw [hn]
    cases neg <;> rfl
theorem doc_bin {o nm : List UInt8} (ho : o ∈ opsW) {a b : Val} {ka kb k : Int} (ha : ValOf a ka) (hb : ValOf b kb) (h : binK o ka kb = some k) : docV o nm a b nothing (nullN [a, b]) = binV o a b := by
  rcases opsW_cases ho with rfl | rfl | rfl | rfl | rfl | rfl | rfl | rfl | rfl | rfl | rfl | rfl | rfl | rfl
  · have h : (if ka = 2 ∧ kb = 2 then some (2 : Int) else none) = some k := h
    split at h
    · rename_i hk
      obtain ⟨rfl, rfl⟩ := hk
      rcases bool_is ha with rfl | rfl | rfl <;> rcases bool_is hb with rfl | rfl | rfl <;> rfl
    · cases h
  · have h : (if ka = 2 ∧ kb = 2 then some (2 : Int) else none) = some k := h
    split at h
    · rename_i hk
      obtain ⟨rfl, rfl⟩ := hk
      rcases bool_is ha with rfl | rfl | rfl <;> rcases bool_is hb with rfl | rfl | rfl <;> rfl
    · cases h
  all_goals
    clear ho h ha hb
    by_cases hn : a.k = 0 ∨ b.k = 0
    · have h1 : 0 < nullN [a, b] := (nulls2 a b).2 hn
      have e1 : ∀ o, o ≠ andW → o ≠ orW → o ≠ callN → docV o nm a b nothing (nullN [a, b]) = nothing := fun o g1 g2 g3 => by
        unfold docV
        rw [if_neg (fun h => g1 h.1), if_neg (fun h => g2 h.1), if_neg (fun h => g3 h.1), if_neg (fun h => g3 h.1), if_neg (fun h => g3 h.1), if_pos h1]
      have e2 : ∀ o, o ≠ andW → o ≠ orW → binV o a b = nothing := fun o g1 g2 => by unfold binV; rw [if_neg g1, if_neg g2, if_pos hn]
      rw [e1 _ (by decide) (by decide) (by decide), e2 _ (by decide) (by decide)]
    · have h1 : ¬ 0 < nullN [a, b] := fun h => hn ((nulls2 a b).1 h)
      have e1 : ∀ o, o ≠ andW → o ≠ orW → o ≠ callN → docV o nm a b nothing (nullN [a, b]) = strictD o nm a b := fun o g1 g2 g3 => by
        unfold docV
        rw [if_neg (fun h => g1 h.1), if_neg (fun h => g2 h.1), if_neg (fun h => g3 h.1), if_neg (fun h => g3 h.1), if_neg (fun h => g3 h.1), if_neg h1]
      have e2 : ∀ o, o ≠ andW → o ≠ orW → binV o a b = arithV o a b := fun o g1 g2 => by unfold binV; rw [if_neg g1, if_neg g2, if_neg hn]
      rw [e1 _ (by decide) (by decide) (by decide), e2 _ (by decide) (by decide)]
      have c1 : decide (compareV a b = 0) = decide (a = b) := by rw [Bool.eq_iff_iff]; simp [cmp_zero]
      have c2 : decide (compareV a b ≠ 0) = decide (a ≠ b) := by rw [Bool.eq_iff_iff]; simp [cmp_zero]
      have c3 : decide (compareV a b < 0) = beforeV a b := by rw [Bool.eq_iff_iff]; simp [cmp_lt]
      have c4 : decide (compareV a b ≤ 0) = (beforeV a b || decide (a = b)) := by
        rw [Bool.eq_iff_iff]; simp only [Bool.or_eq_true, decide_eq_true_eq, ← cmp_lt, ← cmp_zero]; omega
      have c5 : decide (0 < compareV a b) = (!beforeV a b && decide (a ≠ b)) := by
        rw [← c3, ← c2]; rw [Bool.eq_iff_iff]; simp; omega
      have c6 : decide (0 ≤ compareV a b) = !beforeV a b := by
        rw [← c3]; rw [Bool.eq_iff_iff]; simp
      first
        | rfl
        | (show truthV (decide (a = b)) = truthV (decide (compareV a b = 0)); rw [c1])
        | (show truthV (decide (a ≠ b)) = truthV (decide (compareV a b ≠ 0)); rw [c2])
        | (show truthV (beforeV a b) = truthV (decide (compareV a b < 0)); rw [c3])
        | (show truthV (beforeV a b || decide (a = b)) = truthV (decide (compareV a b ≤ 0)); rw [c4])
        | (show truthV (!beforeV a b && decide (a ≠ b)) = truthV (decide (0 < compareV a b)); rw [c5])
        | (show truthV (!beforeV a b) = truthV (decide (0 ≤ compareV a b)); rw [c6])
theorem doc_call {f : List UInt8} {l : List Val} {ks : List Int} {k : Int} (hl : l.length = ks.length) (hv : ∀ i (h : i < l.length) (h' : i < ks.length), ValOf l[i] ks[i]) (h3 : ∀ k ∈ ks, K3 k) (h : callK f ks = some k) :
    docV callN f (l.getD 0 nothing) (l.getD 1 nothing) (l.getD 2 nothing) (nullN l) = callV f l := by
  rw [call_same h3] at h
  unfold callD at h
  have pass : ∀ v0 v1 v2 n, f ≠ isnullW → f ≠ coalW → f ≠ ifW → docV callN f v0 v1 v2 n = if 0 < n then nothing else strictD callN f v0 v1 := fun v0 v1 v2 n g1 g2 g3 => by
    unfold docV
    rw [if_neg (fun h => absurd h.1 (by decide)), if_neg (fun h => absurd h.1 (by decide)), if_neg (fun h => g1 h.2), if_neg (fun h => g2 h.2), if_neg (fun h => g3 h.2)]
  have nul : ∀ l : List Val, (0 < nullN l) = (anyNull l = true) := fun l => by
    unfold nullN anyNull
    rw [List.length_pos_iff_exists_mem]
    simp
  by_cases h1 : f = lenW
  · rw [if_pos h1] at h
    split at h
    · rename_i hk
      subst h1 hk
      match l, hl with
      | [a], _ =>
        rw [pass _ _ _ _ (by decide) (by decide) (by decide)]
        simp only [nul]
        rfl
    · cases h
  rw [if_neg h1] at h
  by_cases h2 : f = absW
  · rw [if_pos h2] at h
    split at h
    · rename_i hk
      subst h2 hk
      match l, hl with
      | [a], _ =>
        have hva := hv 0 (by simp) (by simp)
        simp only [List.getElem_cons_zero] at hva
        rw [pass _ _ _ _ (by decide) (by decide) (by decide)]
        simp only [nul]
        show (if anyNull [a] = true then nothing else if a.n < 0 then intV (wrap64 (-a.n)) else a) = if anyNull [a] = true then nothing else intV (max a.n (wrap64 (-a.n)))
        by_cases hn : anyNull [a] = true
        · rw [if_pos hn, if_pos hn]
        · rw [if_neg hn, if_neg hn]
          have ha : a.k ≠ 0 := fun e => hn (by simp [anyNull, e])
          have ho := hva.2.1
          unfold IntOk at ho
          by_cases hneg : a.n < 0
          · rw [if_pos hneg]
            congr 1
            have : a.n ≤ wrap64 (-a.n) := by unfold wrap64; omega
            omega
          · rw [if_neg hneg]
            have e : max a.n (wrap64 (-a.n)) = a.n := by
              have : wrap64 (-a.n) ≤ a.n := by unfold wrap64; omega
              omega
            rw [e]
            exact int_is hva ha
    · cases h
  rw [if_neg h2] at h
  by_cases h3' : f = cutW
  · rw [if_pos h3'] at h
    split at h
    · rename_i hk
      subst h3' hk
      match l, hl with
      | [a, b], _ =>
        rw [pass _ _ _ _ (by decide) (by decide) (by decide)]
        simp only [nul]
        show (if anyNull [a, b] = true then nothing else textV (a.t.data.toList.take _)) = if anyNull [a, b] = true then nothing else textV (a.t.data.toList.take _)
        congr 3
        show Int.toNat (if (a.t.size : Int) < (if b.n < 0 then 0 else b.n) then (a.t.size : Int) else if b.n < 0 then 0 else b.n) = (max 0 (min (a.t.size : Int) b.n)).toNat
        split <;> split <;> omega
    · cases h
  rw [if_neg h3'] at h
  by_cases h4 : f = isnullW
  · rw [if_pos h4] at h
    split at h
    · rename_i hk
      subst h4
      match l, hl, hk with
      | [a], _, _ =>
        show truthV (decide (nullN [a] = 1)) = truthV (decide (a.k = 0))
        unfold nullN
        by_cases h0 : a.k = 0 <;> simp [h0]
      | [], hl, hk => simp at hl; omega
      | _ :: _ :: _, hl, hk => simp at hl; omega
    · cases h
  rw [if_neg h4] at h
  by_cases h5 : f = coalW
  · subst h5
    rfl
  rw [if_neg h5] at h
  by_cases h6 : f = ifW
  · subst h6
    rfl
  · rw [if_neg h6] at h; cases h

/-! how a tree is written -/
def brk (b : Bool) (l : List UInt8) : List UInt8 := if b = true then 40 :: (l ++ [41]) else l
mutual
def printP : Ex → Nat → List UInt8
  | .lit v, _ => showV v
  | .name s _, _ => s
  | .un neg _ x, L => brk (decide ((if neg = true then 5 else 2) < L)) ((if neg = true then [45] else [110, 111, 116, 32]) ++ printP x (if neg = true then 5 else 2))
  | .bin o _ x y, L => brk (decide (levelO o < L)) (printP x (if levelO o = 2 then 3 else levelO o) ++ (32 :: (o ++ [32]) ++ printP y (levelO o + 1)))
  | .call f _ l, _ => f ++ [40] ++ (printsP false l ++ [41])
def printsP : Bool → List Ex → List UInt8
  | _, [] => []
  | more, x :: l => (if more = true then [44, 32] else []) ++ (printP x 0 ++ printsP true l)
end
mutual
def printD : Ex → Nat → List UInt8
  | .lit v, q => brk (decide (9 < q)) (showV v)
  | .name s _, q => brk (decide (9 < q)) s
  | .un neg _ x, q => brk (decide ((if neg = true then 7 else 3) < q)) ((if neg = true then [45] else [110, 111, 116, 32]) ++ printD x (if neg = true then 7 else 3))
  | .bin o _ x y, q => brk (decide (powS o < q)) (printD x (if powS o = 4 then 5 else powS o) ++ (32 :: (o ++ [32]) ++ printD y (powS o + 1)))
  | .call f _ l, q => brk (decide (9 < q)) (f ++ [40] ++ (printsD false l ++ [41]))
def printsD : Bool → List Ex → List UInt8
  | _, [] => []
  | more, x :: l => (if more = true then [44, 32] else []) ++ (printD x 0 ++ printsD true l)
end
def Corr (L q : Nat) : Prop := L ≤ 5 ∧ (q = leastL L ∨ (L = 0 ∧ q = 1))
theorem corr_least {L : Nat} (h : L ≤ 5) : Corr L (leastL L) := ⟨h, .inl rfl⟩
theorem Corr.vals {L q : Nat} (h : Corr L q) : (L = 0 ∧ (q = 0 ∨ q = 1)) ∨ (L = 1 ∧ q = 2) ∨ (L = 2 ∧ q = 3) ∨ (L = 3 ∧ q = 5) ∨ (L = 4 ∧ q = 6) ∨ (L = 5 ∧ q = 7) := by
  obtain ⟨h1, h2⟩ := h
  match L, h1, h2 with
  | 0, _, h2 => rcases h2 with h2 | h2
                · exact .inl ⟨rfl, .inl h2⟩
                · exact .inl ⟨rfl, .inr h2.2⟩
  | 1, _, h2 => rcases h2 with h2 | h2
                · exact .inr (.inl ⟨rfl, h2⟩)
                · omega
  | 2, _, h2 => rcases h2 with h2 | h2
                · exact .inr (.inr (.inl ⟨rfl, h2⟩))
                · omega
  | 3, _, h2 => rcases h2 with h2 | h2
                · exact .inr (.inr (.inr (.inl ⟨rfl, h2⟩)))
                · omega
  | 4, _, h2 => rcases h2 with h2 | h2
                · exact .inr (.inr (.inr (.inr (.inl ⟨rfl, h2⟩))))
                · omega
  | 5, _, h2 => rcases h2 with h2 | h2
                · exact .inr (.inr (.inr (.inr (.inr ⟨rfl, h2⟩))))
                · omega
theorem op_corr {o : List UInt8} (ho : o ∈ opsW) : (levelO o = 0 ∧ powS o = 1) ∨ (levelO o = 1 ∧ powS o = 2) ∨ (levelO o = 2 ∧ powS o = 4) ∨ (levelO o = 3 ∧ powS o = 5) ∨ (levelO o = 4 ∧ powS o = 6) := by
  rcases opsW_cases ho with rfl | rfl | rfl | rfl | rfl | rfl | rfl | rfl | rfl | rfl | rfl | rfl | rfl | rfl <;> decide
mutual
theorem print_same : ∀ (x : Ex) (L q : Nat), ExOk x → Corr L q → printP x L = printD x q
  | .lit v, L, q, _, hc => by
    unfold printP printD brk
    have := hc.vals
    rw [if_neg (by simp; omega)]
  | .name s p, L, q, _, hc => by
    unfold printP printD brk
    have := hc.vals
    rw [if_neg (by simp; omega)]
  | .un neg p x, L, q, ho, hc => by
    unfold ExOk at ho
    unfold printP printD
    have hv := hc.vals
    cases neg with
    | true =>
      simp only [if_true]
      rw [print_same x 5 7 ho ⟨by omega, .inl rfl⟩]
      congr 1
      rw [Bool.eq_iff_iff]; simp; omega
    | false =>
      simp only [Bool.false_eq_true, if_false]
      rw [print_same x 2 3 ho ⟨by omega, .inl rfl⟩]
      congr 1
      rw [Bool.eq_iff_iff]; simp; omega
  | .bin o p x y, L, q, ho, hc => by
    unfold ExOk at ho
    unfold printP printD
    have hv := hc.vals
    have hp := op_corr ho.1
    have e1 : Corr (if levelO o = 2 then 3 else levelO o) (if powS o = 4 then 5 else powS o) := by
      rcases hp with ⟨h1, h2⟩ | ⟨h1, h2⟩ | ⟨h1, h2⟩ | ⟨h1, h2⟩ | ⟨h1, h2⟩ <;> rw [h1, h2]
      · exact ⟨by simp, .inr ⟨rfl, rfl⟩⟩
      · exact ⟨by simp, .inl rfl⟩
      · exact ⟨by simp, .inl rfl⟩
      · exact ⟨by simp, .inl rfl⟩
      · exact ⟨by simp, .inl rfl⟩
    have e2 : Corr (levelO o + 1) (powS o + 1) := by
      rcases hp with ⟨h1, h2⟩ | ⟨h1, h2⟩ | ⟨h1, h2⟩ | ⟨h1, h2⟩ | ⟨h1, h2⟩ <;> rw [h1, h2] <;> exact ⟨by simp, .inl rfl⟩
    rw [print_same x _ _ ho.2.1 e1, print_same y _ _ ho.2.2 e2]
    congr 1
    rw [Bool.eq_iff_iff]; simp; omega
  | .call f p l, L, q, ho, hc => by
    unfold ExOk at ho
    unfold printP printD
    have hv := hc.vals
    rw [prints_same l false ho]
    unfold brk
    rw [if_neg (by simp; omega)]
theorem prints_same : ∀ (l : List Ex) (more : Bool), ExsOk l → printsP more l = printsD more l
  | [], _, _ => by unfold printsP printsD; rfl
  | x :: l, more, ho => by
    unfold ExsOk at ho
    unfold printsP printsD
    rw [print_same x 0 0 ho.1 ⟨by omega, .inl rfl⟩, prints_same l true ho.2]
end
end Go.Proofs.YtgajofkeidjbgaaGreatDoor
namespace Go.Proofs.YtgajofkeidjbgaaGreatDoor
set_option linter.unusedSimpArgs false
set_option linter.unusedVariables false
open Go.RowKit

abbrev valueN : List UInt8 := [118, 97, 108, 117, 101]
abbrev nameN : List UInt8 := [110, 97, 109, 101]
/-- a token as the document has it: the end's sort is 'e'. -/
def Tok.d (t : Tok) : Tok := ⟨if t.k = 0 then 101 else t.k, t.t, t.p⟩
/-- where the tokens lie: block, offset, capacity. -/
structure Row3 where
  g : Nat
  o : Nat
  c : Nat
/-- the document's reading at block 'R': its tokens (they lie below it), its place, its depth, what is wrong, and where. -/
def RAt (w : World) (R : Nat) (K : Row3) (L : List Tok) (i d : Nat) (e : Int) (bad : Nat) : Prop :=
  w.heap[R]? = some (.cells #[.slice (some ⟨K.g, K.o, none⟩) L.length K.c, .int .i64 (i : Int), .int .i64 (d : Int), .int .i64 e, .int .i64 (bad : Int)] 68 (0, 0)) ∧ K.g < R ∧ ∀ j (h : j < L.length), TokAt w K.g (K.o + j * 3) L[j].d
theorem RAt.kept {S : Nat → Prop} {w w' : World} {R : Nat} {K : Row3} {L : List Tok} {i d bad : Nat} {e : Int} (h : RAt w R K L i d e bad) (k : Keeps S w w') (hR : S R) (hs : S K.g) : RAt w' R K L i d e bad :=
  ⟨k.obj hR h.1, h.2.1, fun j hj => (h.2.2 j hj).kept hs k⟩
theorem RAt.later {w w' : World} {R : Nat} {K : Row3} {L : List Tok} {i d bad : Nat} {e : Int} (h : RAt w R K L i d e bad) (k : Later w w') : RAt w' R K L i d e bad := h.kept (k.keeps fun _ => True) trivial trivial
/-- a field of the reading is written. -/
theorem RAt.set {w : World} {R : Nat} {K : Row3} {L : List Tok} {i d bad : Nat} {e : Int} (h : RAt w R K L i d e bad) :
    (∀ i' : Nat, RAt (w.setCell ⟨R, 1, none⟩ (.int .i64 (i' : Int))) R K L i' d e bad) ∧ (∀ d' : Nat, RAt (w.setCell ⟨R, 2, none⟩ (.int .i64 (d' : Int))) R K L i d' e bad) ∧ (∀ e' : Int, RAt (w.setCell ⟨R, 3, none⟩ (.int .i64 e')) R K L i d e' bad) ∧
    (∀ b' : Nat, RAt (w.setCell ⟨R, 4, none⟩ (.int .i64 (b' : Int))) R K L i d e b') ∧ ∀ (o : Nat) (u : Value), Keeps (fun b => b ≠ R) w (w.setCell ⟨R, o, none⟩ u) := by
  have hk : ∀ (o : Nat) (u : Value), Keeps (fun b => b ≠ R) w (w.setCell ⟨R, o, none⟩ u) := fun o u => (Keeps.refl _ w).setCell (p := ⟨R, o, none⟩) (.inl fun h => h rfl) _
  obtain ⟨h1, h2, h3⟩ := h
  have ht : ∀ (o : Nat) (u : Value), ∀ j (h : j < L.length), TokAt (w.setCell ⟨R, o, none⟩ u) K.g (K.o + j * 3) L[j].d := fun o u j hj => (h3 j hj).kept (S := fun b => b ≠ R) (Nat.ne_of_lt h2) (hk o u)
  exact ⟨fun i' => ⟨obj_setCell (i := 1) h1 _, h2, ht _ _⟩, fun d' => ⟨obj_setCell (i := 2) h1 _, h2, ht _ _⟩, fun e' => ⟨obj_setCell (i := 3) h1 _, h2, ht _ _⟩, fun b' => ⟨obj_setCell (i := 4) h1 _, h2, ht _ _⟩, hk⟩
/-- what the reading's cells hold. -/
theorem RAt.cells {w : World} {R : Nat} {K : Row3} {L : List Tok} {i d bad : Nat} {e : Int} (h : RAt w R K L i d e bad) :
    w.cell? ⟨R, 0, none⟩ = some (.slice (some ⟨K.g, K.o, none⟩) L.length K.c) ∧ w.cell? ⟨R, 1, none⟩ = some (.int .i64 (i : Int)) ∧ w.cell? ⟨R, 2, none⟩ = some (.int .i64 (d : Int)) ∧ w.cell? ⟨R, 3, none⟩ = some (.int .i64 e) ∧ w.cell? ⟨R, 4, none⟩ = some (.int .i64 (bad : Int)) ∧ (∀ o, w.frozen? ⟨R, o, none⟩ = false) ∧ R < w.heap.size :=
  ⟨cell_obj (i := 0) h.1 rfl, cell_obj (i := 1) h.1 rfl, cell_obj (i := 2) h.1 rfl, cell_obj (i := 3) h.1 rfl, cell_obj (i := 4) h.1 rfl, fun o => free_obj h.1, obj_lt h.1⟩
abbrev KidsIn (S : Nat → Prop) (w : World) (a : Value) (us : List Value) : Prop := SliceOf S (fun w b o u => w.cell? ⟨b, o, none⟩ = some u) 1 w a us
def unN (neg : Bool) : List UInt8 := if neg = true then minusN else notW
mutual
/-- the tree in memory, in blocks of 'S', as the document has it. -/
def EIn (S : Nat → Prop) (w : World) : Value → Ex → Prop
  | v, .lit x => ∃ (B : Nat) (p a nm : Value), S B ∧ v = .pointer (some ⟨B, 0, none⟩) ∧ w.heap[B]? = some (.cells #[.string (strB valueN), p, a, .int .i64 x.k, .int .i64 x.n, .string x.t, nm] 77 (0, 0))
  | v, .name s p => ∃ (B : Nat) (a v1 v2 v3 : Value), S B ∧ v = .pointer (some ⟨B, 0, none⟩) ∧ w.heap[B]? = some (.cells #[.string (strB nameN), .int .i64 (p : Int), a, v1, v2, v3, .string (strB s)] 77 (0, 0))
  | v, .un neg p x => ∃ (B : Nat) (a u v1 v2 v3 nm : Value), S B ∧ v = .pointer (some ⟨B, 0, none⟩) ∧ w.heap[B]? = some (.cells #[.string (strB (unN neg)), .int .i64 (p : Int), a, v1, v2, v3, nm] 77 (0, 0)) ∧
      KidsIn S w a [u] ∧ EIn S w u x
  | v, .bin o p x y => ∃ (B : Nat) (a u1 u2 v1 v2 v3 nm : Value), S B ∧ v = .pointer (some ⟨B, 0, none⟩) ∧ w.heap[B]? = some (.cells #[.string (strB o), .int .i64 (p : Int), a, v1, v2, v3, nm] 77 (0, 0)) ∧
      KidsIn S w a [u1, u2] ∧ EIn S w u1 x ∧ EIn S w u2 y
  | v, .call f p l => ∃ (B : Nat) (a : Value) (us : List Value) (v1 v2 v3 : Value), S B ∧ v = .pointer (some ⟨B, 0, none⟩) ∧ w.heap[B]? = some (.cells #[.string (strB callN), .int .i64 (p : Int), a, v1, v2, v3, .string (strB f)] 77 (0, 0)) ∧
      KidsIn S w a us ∧ EsIn S w us l
def EsIn (S : Nat → Prop) (w : World) : List Value → List Ex → Prop
  | [], [] => True
  | v :: vs, x :: l => EIn S w v x ∧ EsIn S w vs l
  | _, _ => False
end
theorem kids_kept {S S' : Nat → Prop} {w w' : World} {a : Value} {us : List Value} (h : KidsIn S w a us) (k : Keeps S' w w') (hs : ∀ b, S b → S' b) : KidsIn S w' a us := h.map fun _ _ _ hb hx => ⟨hb, k.cell (hs _ hb) hx⟩
mutual
theorem EIn.kept {S S' : Nat → Prop} {w w' : World} (k : Keeps S' w w') (hs : ∀ b, S b → S' b) : ∀ (v : Value) (x : Ex), EIn S w v x → EIn S w' v x
  | v, .lit x, h => by
    unfold EIn at h ⊢
    obtain ⟨B, p, a, nm, h1, h2, h3⟩ := h
    exact ⟨B, p, a, nm, h1, h2, k.obj (hs _ h1) h3⟩
  | v, .name s p, h => by
    unfold EIn at h ⊢
    obtain ⟨B, a, v1, v2, v3, h1, h2, h3⟩ := h
    exact ⟨B, a, v1, v2, v3, h1, h2, k.obj (hs _ h1) h3⟩
  | v, .un neg p x, h => by
    unfold EIn at h ⊢
    obtain ⟨B, a, u, v1, v2, v3, nm, h1, h2, h3, h4, h5⟩ := h
    exact ⟨B, a, u, v1, v2, v3, nm, h1, h2, k.obj (hs _ h1) h3, kids_kept h4 k hs, EIn.kept k hs u x h5⟩
  | v, .bin o p x y, h => by
    unfold EIn at h ⊢
    obtain ⟨B, a, u1, u2, v1, v2, v3, nm, h1, h2, h3, h4, h5, h6⟩ := h
    exact ⟨B, a, u1, u2, v1, v2, v3, nm, h1, h2, k.obj (hs _ h1) h3, kids_kept h4 k hs, EIn.kept k hs u1 x h5, EIn.kept k hs u2 y h6⟩
  | v, .call f p l, h => by
    unfold EIn at h ⊢
    obtain ⟨B, a, us, v1, v2, v3, h1, h2, h3, h4, h5⟩ := h
    exact ⟨B, a, us, v1, v2, v3, h1, h2, k.obj (hs _ h1) h3, kids_kept h4 k hs, EsIn.kept k hs us l h5⟩
theorem EsIn.kept {S S' : Nat → Prop} {w w' : World} (k : Keeps S' w w') (hs : ∀ b, S b → S' b) : ∀ (vs : List Value) (l : List Ex), EsIn S w vs l → EsIn S w' vs l
  | [], [], h => by unfold EsIn; trivial
  | v :: vs, x :: l, h => by
    unfold EsIn at h ⊢
    exact ⟨EIn.kept k hs v x h.1, EsIn.kept k hs vs l h.2⟩
  | [], _ :: _, h => by unfold EsIn at h; exact h.elim
  | _ :: _, [], h => by unfold EsIn at h; exact h.elim
end
/-- the word at a tree's head. -/
def whatE : Ex → List UInt8
  | .lit _ => valueN
  | .name _ _ => nameN
  | .un neg _ _ => unN neg
  | .bin o _ _ _ => o
  | .call _ _ _ => callN
theorem EIn.what {S : Nat → Prop} {w : World} {B : Nat} {x : Ex} (h : EIn S w (.pointer (some ⟨B, 0, none⟩)) x) : w.cell? ⟨B, 0, none⟩ = some (.string (strB (whatE x))) := by
  cases x <;> (unfold EIn at h)
  · obtain ⟨B', p, a, nm, h1, h2, h3⟩ := h
    simp only [Value.pointer.injEq, Option.some.injEq, Addr.mk.injEq, and_true] at h2
    subst h2; exact cell_obj (i := 0) h3 rfl
  · obtain ⟨B', a, v1, v2, v3, h1, h2, h3⟩ := h
    simp only [Value.pointer.injEq, Option.some.injEq, Addr.mk.injEq, and_true] at h2
    subst h2; exact cell_obj (i := 0) h3 rfl
  · obtain ⟨B', a, u, v1, v2, v3, nm, h1, h2, h3, h4⟩ := h
    simp only [Value.pointer.injEq, Option.some.injEq, Addr.mk.injEq, and_true] at h2
    subst h2; exact cell_obj (i := 0) h3 rfl
  · obtain ⟨B', a, u1, u2, v1, v2, v3, nm, h1, h2, h3, h4⟩ := h
    simp only [Value.pointer.injEq, Option.some.injEq, Addr.mk.injEq, and_true] at h2
    subst h2; exact cell_obj (i := 0) h3 rfl
  · obtain ⟨B', a, us, v1, v2, v3, h1, h2, h3, h4⟩ := h
    simp only [Value.pointer.injEq, Option.some.injEq, Addr.mk.injEq, and_true] at h2
    subst h2; exact cell_obj (i := 0) h3 rfl
mutual
theorem EIn.mono {S S' : Nat → Prop} {w : World} (hs : ∀ b, b < w.heap.size → S b → S' b) : ∀ (v : Value) (x : Ex), EIn S w v x → EIn S' w v x
  | v, .lit x, h => by
    unfold EIn at h ⊢
    obtain ⟨B, p, a, nm, h1, h2, h3⟩ := h
    exact ⟨B, p, a, nm, hs _ (obj_lt h3) h1, h2, h3⟩
  | v, .name s p, h => by
    unfold EIn at h ⊢
    obtain ⟨B, a, v1, v2, v3, h1, h2, h3⟩ := h
    exact ⟨B, a, v1, v2, v3, hs _ (obj_lt h3) h1, h2, h3⟩
  | v, .un neg p x, h => by
    unfold EIn at h ⊢
    obtain ⟨B, a, u, v1, v2, v3, nm, h1, h2, h3, h4, h5⟩ := h
    exact ⟨B, a, u, v1, v2, v3, nm, hs _ (obj_lt h3) h1, h2, h3, h4.map fun _ _ _ hb hx => ⟨hs _ (cell_lt hx) hb, hx⟩, EIn.mono hs u x h5⟩
  | v, .bin o p x y, h => by
    unfold EIn at h ⊢
    obtain ⟨B, a, u1, u2, v1, v2, v3, nm, h1, h2, h3, h4, h5, h6⟩ := h
    exact ⟨B, a, u1, u2, v1, v2, v3, nm, hs _ (obj_lt h3) h1, h2, h3, h4.map fun _ _ _ hb hx => ⟨hs _ (cell_lt hx) hb, hx⟩, EIn.mono hs u1 x h5, EIn.mono hs u2 y h6⟩
  | v, .call f p l, h => by
    unfold EIn at h ⊢
    obtain ⟨B, a, us, v1, v2, v3, h1, h2, h3, h4, h5⟩ := h
    exact ⟨B, a, us, v1, v2, v3, hs _ (obj_lt h3) h1, h2, h3, h4.map fun _ _ _ hb hx => ⟨hs _ (cell_lt hx) hb, hx⟩, EsIn.mono hs us l h5⟩
theorem EsIn.mono {S S' : Nat → Prop} {w : World} (hs : ∀ b, b < w.heap.size → S b → S' b) : ∀ (vs : List Value) (l : List Ex), EsIn S w vs l → EsIn S' w vs l
  | [], [], h => by unfold EsIn; trivial
  | v :: vs, x :: l, h => by
    unfold EsIn at h ⊢
    exact ⟨EIn.mono hs v x h.1, EsIn.mono hs vs l h.2⟩
  | [], _ :: _, h => by unfold EsIn at h; exact h.elim
  | _ :: _, [], h => by unfold EsIn at h; exact h.elim
end
/-- what a function of the document's parser answers: a tree, fewer tokens, or what is wrong. -/
def ROut (w : World) (R : Nat) (K : Row3) (L : List Tok) (i d : Nat) (T : Res → Prop) (e : Ending) (w' : World) : Prop :=
  Keeps (fun b => b ≠ R) w w' ∧ ∃ (r : Res) (B : Nat), T r ∧ e = .returned (.pointer (some ⟨B, 0, none⟩)) ∧ match r with
    | .error f => f.1 ≠ 0 ∧ ∃ j, i ≤ j ∧ j < L.length ∧ RAt w' R K L j d f.1 f.2
    | .ok x => EIn (fun b => b ≠ R ∧ w.heap.size ≤ b) w' (.pointer (some ⟨B, 0, none⟩)) x.1 ∧ ∃ j, i < j ∧ L.drop j = x.2 ∧ RAt w' R K L j d 0 0 ∧ EndL x.2
end Go.Proofs.YtgajofkeidjbgaaGreatDoor
namespace Go.Proofs.YtgajofkeidjbgaaGreatDoor
set_option linter.unusedSimpArgs false
set_option linter.unusedVariables false
open Go.RowKit

theorem what_eq {s : ByteArray} (l : List UInt8) (h : s = strB l) : (s.toList == l) = true := by rw [h, strB_toL']; simp
theorem what_ne {s : ByteArray} {l m : List UInt8} (h : s = strB l) (hn : l ≠ m) : (s.toList == m) = false := by rw [h, strB_toL']; simpa using hn
theorem ptr_inj {N N' : Nat} (h : Value.pointer (some ⟨N, 0, none⟩) = .pointer (some ⟨N', 0, none⟩)) : N = N' := by
  simp only [Value.pointer.injEq, Option.some.injEq, Addr.mk.injEq] at h
  exact h.1
theorem EIn.ptr {S : Nat → Prop} {w : World} {v : Value} {x : Ex} (h : EIn S w v x) : ∃ N, v = .pointer (some ⟨N, 0, none⟩) := by
  cases x <;> (unfold EIn at h)
  · obtain ⟨B, p, a, nm, -, h, -⟩ := h; exact ⟨B, h⟩
  · obtain ⟨B, a, v1, v2, v3, -, h, -⟩ := h; exact ⟨B, h⟩
  · obtain ⟨B, a, u, v1, v2, v3, nm, -, h, -⟩ := h; exact ⟨B, h⟩
  · obtain ⟨B, a, u1, u2, v1, v2, v3, nm, -, h, -⟩ := h; exact ⟨B, h⟩
  · obtain ⟨B, a, us, v1, v2, v3, -, h, -⟩ := h; exact ⟨B, h⟩
/-- where a tree's parts lie. -/
theorem kids_at {S : Nat → Prop} {w : World} {a : Value} {us : List Value} (h : KidsIn S w a us) (hu : us ≠ []) : ∃ b o c, a = .slice (some ⟨b, o, none⟩) us.length c ∧ ∀ i (hi : i < us.length), w.cell? ⟨b, o + i, none⟩ = some us[i] := by
  obtain ⟨ao, c, hv, -, -, -, he⟩ := h
  have h0 : 0 < us.length := List.length_pos_iff.2 hu
  obtain ⟨b, o, hao, -, -⟩ := he 0 h0
  subst hao
  refine ⟨b, o, c, hv, fun i hi => ?_⟩
  obtain ⟨b', o', e, -, hx⟩ := he i hi
  simp only [Option.some.injEq, Addr.mk.injEq, and_true] at e
  obtain ⟨rfl, rfl⟩ := e
  simpa using hx
theorem es_at {S : Nat → Prop} {w : World} : ∀ {vs : List Value} {l : List Ex}, EsIn S w vs l → ∀ k (h : k < l.length) (h' : k < vs.length), EIn S w vs[k] l[k]
  | [], [], _, k, h, _ => absurd h (by simp)
  | v :: vs, x :: l, hn, k, h, h' => by
    unfold EsIn at hn
    cases k with
    | zero => exact hn.1
    | succ k => exact es_at hn.2 k (by simpa using h) (by simpa using h')
  | [], _ :: _, h, _, _, _ => by unfold EsIn at h; exact h.elim
  | _ :: _, [], h, _, _, _ => by unfold EsIn at h; exact h.elim
theorem rexs_at : ∀ {l : List Ex}, ExsOk l → ∀ x ∈ l, ExOk x
  | [], _, x, h => absurd h (by simp)
  | y :: l, ho, x, h => by
    unfold ExsOk at ho
    rcases List.mem_cons.1 h with rfl | h
    · exact ho.1
    · exact rexs_at ho.2 x h
theorem ops_what : ∀ o ∈ opsW, o ≠ valueN ∧ o ≠ nameN ∧ o ≠ callN ∧ o ≠ minusN ∧ o ≠ notW := by decide
theorem es_len {S : Nat → Prop} {w : World} : ∀ {vs : List Value} {l : List Ex}, EsIn S w vs l → vs.length = l.length
  | [], [], _ => rfl
  | v :: vs, x :: l, h => by
    unfold EsIn at h
    simp [es_len h.2]
  | [], _ :: _, h => by unfold EsIn at h; exact h.elim
  | _ :: _, [], h => by unfold EsIn at h; exact h.elim
end Go.Proofs.YtgajofkeidjbgaaGreatDoor
