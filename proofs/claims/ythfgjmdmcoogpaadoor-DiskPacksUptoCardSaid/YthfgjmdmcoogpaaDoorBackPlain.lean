/-
  PROVED HERE: in plain Lean: what is written is read to the same; a sum tells one byte that turned; what is sealed is opened. No program of its own.
-/
import Derived.Test.YthfgjmdmcoogpaaDoorOpenB
import Derived.Test.YthfgjmdmcoogpaaDoorReaderAll
import Derived.Test.YthfgjmdmcoogpaaDoorPutRows
namespace Go.Proofs.YthfgjmdmcoogpaaDoor
set_option linter.unusedSimpArgs false
set_option linter.unusedVariables false
open Go Go.RowKit

theorem str_none {t : ByteArray} (h : str t = []) : t = ⟨#[]⟩ := by
  have : t.data.toList = [] := by
    have h2 : t.toList = [] := h
    rwa [Go.ByteArray.toList_eq] at h2
  rw [← strB_data t, this]
  rfl
theorem dText_enc (t : ByteArray) (h : t.size ≤ 9223372036854775807) (r : List UInt8) : dText (encText t ++ r) = some (t, r) := by
  unfold dText encText
  rw [List.append_assoc, dInt_enc (by omega) (by omega)]
  have hl : t.data.toList.length = t.size := by rw [Array.length_toList]; rfl
  simp only
  rw [if_neg (by rw [List.length_append]; omega)]
  simp only [Int.toNat_natCast]
  rw [← hl, List.take_left, List.drop_left]
  rfl
theorem dVal_enc {x : Val} (hv : validV x = true) (hn : -9223372036854775808 ≤ x.n ∧ x.n ≤ 9223372036854775807) (ht : x.t.size ≤ 9223372036854775807) (r : List UInt8) : dVal (encVal x ++ r) = some (x, r) := by
  obtain ⟨k, n, t⟩ := x
  simp only at hn ht
  have hk : k = 0 ∨ k = 1 ∨ k = 2 ∨ k = 3 := by
    unfold validV at hv
    simp only at hv
    split at hv
    · left; assumption
    · split at hv
      · right; left; assumption
      · split at hv
        · right; right; left; assumption
        · split at hv
          · right; right; right; assumption
          · cases hv
  have hv0 := hv
  rcases hk with rfl | rfl | rfl | rfl
  · simp [validV] at hv
    obtain ⟨rfl, ht0⟩ := hv
    obtain rfl := str_none ht0
    show (match dFill ((UInt8.ofNat ((0 : Int) % 256).toNat).toNat : Int) r with | none => none | some (v, r') => if validV v then some (v, r') else none) = _
    have : dFill ((UInt8.ofNat ((0 : Int) % 256).toNat).toNat : Int) r = some (⟨0, 0, ⟨#[]⟩⟩, r) := rfl
    rw [this]
    exact if_pos hv0
  · simp [validV] at hv
    obtain rfl := str_none hv
    simp only [encVal, List.cons_append, dVal]
    have : dFill ((UInt8.ofNat ((1 : Int) % 256).toNat).toNat : Int) (encInt n ++ r) = some (⟨1, n, ⟨#[]⟩⟩, r) := by
      show dFill 1 _ = _
      unfold dFill
      rw [if_pos (.inl rfl), dInt_enc hn.1 hn.2]
      rfl
    simp only [true_or, if_true]
    rw [this]
    exact if_pos hv0
  · simp [validV] at hv
    obtain rfl := str_none hv.1
    simp only [encVal, List.cons_append, dVal]
    have : dFill ((UInt8.ofNat ((2 : Int) % 256).toNat).toNat : Int) (encInt n ++ r) = some (⟨2, n, ⟨#[]⟩⟩, r) := by
      show dFill 2 _ = _
      unfold dFill
      rw [if_pos (.inr rfl), dInt_enc hn.1 hn.2]
      rfl
    simp only [or_true, if_true]
    rw [this]
    exact if_pos hv0
  · simp [validV] at hv
    obtain ⟨rfl, -⟩ := hv
    simp only [encVal, List.cons_append, dVal]
    have : dFill ((UInt8.ofNat ((3 : Int) % 256).toNat).toNat : Int) (encText t ++ r) = some (⟨3, 0, t⟩, r) := by
      show dFill 3 _ = _
      unfold dFill
      rw [if_neg (by decide), if_pos rfl, dText_enc t ht]
      rfl
    simp only [show ¬ ((3 : Int) = 1 ∨ (3 : Int) = 2) by decide, if_false, if_true]
    rw [this]
    exact if_pos hv0
theorem dMany_enc {α : Type} {d : List UInt8 → Option (α × List UInt8)} {e : α → List UInt8} : ∀ (xs : List α) (r : List UInt8), (∀ x ∈ xs, ∀ r, d (e x ++ r) = some (x, r)) → dMany d xs.length (xs.flatMap e ++ r) = some (xs, r)
  | [], r, _ => rfl
  | x :: xs, r, h => by
    simp only [List.length_cons, List.flatMap_cons, List.append_assoc, dMany]
    rw [h x List.mem_cons_self]
    simp only
    rw [dMany_enc xs r fun y hy => h y (List.mem_cons_of_mem _ hy)]
    rfl
theorem valOk_int {x : Val} (h : ValOk x) : -9223372036854775808 ≤ x.n ∧ x.n ≤ 9223372036854775807 := by
  have := h.2.1
  simpa [Lit.wf, IntKind.min, IntKind.max, IntKind.bits, IntKind.signed] using this
theorem valOk_text {x : Val} (h : ValOk x) : x.t.size ≤ 9223372036854775807 := by
  have := h.2.2
  unfold maxLen at this
  omega
theorem dRow_enc {x : Row} (hv : validR x = true) (hf : RowFine x) (r : List UInt8) : dRow (encRow x ++ r) = some (x, r) := by
  obtain ⟨t, ys⟩ := x
  have hr := hv
  unfold validR at hr
  simp only [Bool.and_eq_true, decide_eq_true_eq, List.all_eq_true] at hr
  obtain ⟨h1, h2, h3, h4⟩ := hr
  unfold encRow
  simp only [List.append_assoc]
  have e1 := dInt_enc (n := t) (by omega) (by omega) (encInt ys.length ++ (encVals ys ++ r))
  have e2 := dInt_enc (n := (ys.length : Int)) (by omega) (by omega) (encVals ys ++ r)
  have e3 := dMany_enc (d := dVal) (e := encVal) ys r fun x hx r => dVal_enc (h4 x hx) (valOk_int (hf.2 x hx)) (valOk_text (hf.2 x hx)) r
  rw [dRow_some e1 e2 e3, if_pos hv]
theorem dAll_enc {rows : List Row} (hl : rows.length ≤ 9223372036854775807) (hv : ∀ x ∈ rows, validR x = true) (hf : ∀ x ∈ rows, RowFine x) : dAll (encRows rows) = some rows := by
  refine dAll_some ?_
  unfold encRows encRowList
  have e1 := dInt_enc (n := (rows.length : Int)) (by omega) (by omega) (rows.flatMap encRow)
  have e3 := dMany_enc (d := dRow) (e := encRow) rows [] fun x hx r => dRow_enc (hv x hx) (hf x hx) r
  rw [List.append_nil] at e3
  exact dRows_some e1 e3

theorem poly_bit : poly.testBit 31 = true := by decide
theorem crcStep_inj {s t : Nat} (hs : s < 2 ^ 32) (ht : t < 2 ^ 32) (h : crcStep s = crcStep t) : s = t := by
  have mix : ∀ a b : Nat, a < 2 ^ 32 → b < 2 ^ 32 → (a / 2) ^^^ poly ≠ b / 2 := fun a b ha hb e => by
    have h1 := congrArg (fun x => Nat.testBit x 31) e
    simp only [Nat.testBit_xor, poly_bit] at h1
    rw [Nat.testBit_lt_two_pow (x := a / 2) (by omega), Nat.testBit_lt_two_pow (x := b / 2) (by omega)] at h1
    simp at h1
  unfold crcStep at h
  split at h
  · split at h
    · have h2 := congrArg (· ^^^ poly) h
      simp only [Nat.xor_assoc, Nat.xor_self, Nat.xor_zero] at h2
      omega
    · exact absurd h (mix s t hs ht)
  · split at h
    · exact absurd h.symm (mix t s ht hs)
    · omega
theorem stepN_inj {s t : Nat} (hs : s < 2 ^ 32) (ht : t < 2 ^ 32) : ∀ k, stepN s k = stepN t k → s = t
  | 0, h => h
  | k + 1, h => stepN_inj hs ht k (crcStep_inj (stepN_lt hs k) (stepN_lt ht k) h)
theorem xor_inj_left {a b c : Nat} (h : a ^^^ b = a ^^^ c) : b = c := by
  have h2 := congrArg (a ^^^ ·) h
  simpa [← Nat.xor_assoc] using h2
theorem xor_inj_right {a b c : Nat} (h : b ^^^ a = c ^^^ a) : b = c := xor_inj_left (a := a) (by rw [Nat.xor_comm a b, Nat.xor_comm a c]; exact h)
theorem crcByte_state {s t : Nat} (x : UInt8) (hs : s < 2 ^ 32) (ht : t < 2 ^ 32) (h : crcByte s x = crcByte t x) : s = t := by
  have hx : x.toNat < 2 ^ 32 := by have := x.toNat_lt; omega
  rw [← step_byte, ← step_byte] at h
  exact xor_inj_right (stepN_inj (Nat.xor_lt_two_pow hs hx) (Nat.xor_lt_two_pow ht hx) 8 h)
theorem crcByte_byte {s : Nat} {x y : UInt8} (hs : s < 2 ^ 32) (h : crcByte s x = crcByte s y) : x = y := by
  have hx : x.toNat < 2 ^ 32 := by have := x.toNat_lt; omega
  have hy : y.toNat < 2 ^ 32 := by have := y.toNat_lt; omega
  rw [← step_byte, ← step_byte] at h
  exact UInt8.toNat_inj.1 (xor_inj_left (stepN_inj (Nat.xor_lt_two_pow hs hx) (Nat.xor_lt_two_pow hs hy) 8 h))
theorem crcFold_state : ∀ (l : List UInt8) {s t : Nat}, s < 2 ^ 32 → t < 2 ^ 32 → crcFold s l = crcFold t l → s = t
  | [], _, _, _, _, h => h
  | x :: l, _, _, hs, ht, h => crcByte_state x hs ht (crcFold_state l (crcByte_lt x hs) (crcByte_lt x ht) h)
theorem crc_byte (a r : List UInt8) {x y : UInt8} (h : crc (a ++ x :: r) = crc (a ++ y :: r)) : x = y := by
  have h2 := xor_inj_right h
  unfold crcFold at h2
  simp only [List.foldl_append, List.foldl_cons] at h2
  have ha : crcFold 0xffffffff a < 2 ^ 32 := crcFold_lt a (by decide)
  exact crcByte_byte ha (crcFold_state r (crcByte_lt x ha) (crcByte_lt y ha) h2)

theorem be4_append {p r : List UInt8} (h : p.length = 4) : be4 (p ++ r) = be4 p := by
  match p, h with
  | [a, b, c, d], _ => rfl
theorem be4_w4 {n : Nat} (h : n < 2 ^ 32) : be4 (w4 n) = n := ((w4_be4 (l := w4 n) rfl h).1 rfl).symm
/-- a body with four bytes ahead of it that say how long it is, and four more. -/
theorem openB_at (a q body z : List UInt8) (hq : q.length = 4) (hb : body.length ≤ 134217728) :
    openB (a ++ (w4 body.length ++ (q ++ body)) ++ z) a.length = if crc body = be4 q then (body, (a.length : Int) + 8 + body.length, 0) else ([], 0, 8) := by
  have h4 : (w4 body.length).length = 4 := rfl
  have hL : (a ++ (w4 body.length ++ (q ++ body)) ++ z).length = a.length + 8 + body.length + z.length := by simp only [List.length_append, h4, hq]; omega
  have e0 : (a ++ (w4 body.length ++ (q ++ body)) ++ z).drop a.length = w4 body.length ++ (q ++ (body ++ z)) := by simp [List.append_assoc]
  have e4 : (a ++ (w4 body.length ++ (q ++ body)) ++ z).drop (a.length + 4) = q ++ (body ++ z) := by rw [← List.drop_drop, e0]; exact List.drop_left' h4
  have e8 : (a ++ (w4 body.length ++ (q ++ body)) ++ z).drop (a.length + 8) = body ++ z := by rw [show a.length + 8 = a.length + 4 + 4 by omega, ← List.drop_drop, e4]; exact List.drop_left' hq
  have b0 : be4 ((a ++ (w4 body.length ++ (q ++ body)) ++ z).drop a.length) = body.length := by rw [e0, be4_append h4, be4_w4 (by omega)]
  have b4 : be4 ((a ++ (w4 body.length ++ (q ++ body)) ++ z).drop (a.length + 4)) = be4 q := by rw [e4, be4_append hq]
  unfold openB
  rw [if_neg (by rw [hL]; omega)]
  simp only [Int.toNat_natCast]
  rw [b0, b4, if_neg (by rw [hL]; omega)]
  have eb : ((a ++ (w4 body.length ++ (q ++ body)) ++ z).take (a.length + 8 + body.length)).drop (a.length + 8) = body := by
    rw [List.drop_take, e8, show a.length + 8 + body.length - (a.length + 8) = body.length by omega]
    exact List.take_left
  rw [eb]
/-- what Seal gives. -/
def sealed (l : List UInt8) : List UInt8 := w4 l.length ++ (w4 (crc l) ++ l)
theorem sealed_length (l : List UInt8) : (sealed l).length = l.length + 8 := by
  have h4 : ∀ n, (w4 n).length = 4 := fun _ => rfl
  simp only [sealed, List.length_append, h4]; omega
theorem open_sealed (a l z : List UInt8) (hl : l.length ≤ 134217728) : openB (a ++ sealed l ++ z) a.length = (l, (a.length : Int) + 8 + l.length, 0) := by
  unfold sealed
  rw [openB_at a (w4 (crc l)) l z rfl hl, if_pos (be4_w4 (crc_lt l)).symm]
theorem set_split {α : Type} : ∀ (l : List α) (k : Nat) (y : α) (h : k < l.length), l.set k y = l.take k ++ y :: l.drop (k + 1) ∧ l = l.take k ++ l[k] :: l.drop (k + 1)
  | x :: l, 0, y, _ => ⟨rfl, rfl⟩
  | x :: l, k + 1, y, h => by
    obtain ⟨h1, h2⟩ := set_split l k y (by simpa using h)
    exact ⟨by simp only [List.set_cons_succ, h1]; rfl, by simp only [List.take_succ_cons, List.cons_append, List.getElem_cons_succ, List.drop_succ_cons]; rw [← h2]⟩
theorem open_turned (l : List UInt8) (k : Nat) (y : UInt8) (hl : l.length ≤ 134217728) (h4 : 4 ≤ k) (hk : k < (sealed l).length) (hy : y ≠ (sealed l)[k]) : openB ((sealed l).set k y) 0 = ([], 0, 8) := by
  have hk' := hk
  rw [sealed_length] at hk'
  by_cases h8 : k < 8
  · have e : (sealed l).set k y = w4 l.length ++ ((w4 (crc l)).set (k - 4) y ++ l) := by
      unfold sealed
      rw [List.set_append_right _ _ (by show 4 ≤ k; omega), show (w4 l.length).length = 4 from rfl, List.set_append_left _ _ (by show k - 4 < 4; omega)]
    have g : (sealed l)[k] = (w4 (crc l))[k - 4]'(by show k - 4 < 4; omega) := by
      simp only [sealed]
      rw [List.getElem_append_right (by show 4 ≤ k; omega), List.getElem_append_left (by show k - 4 < 4; omega)]
      rfl
    have ho := openB_at [] ((w4 (crc l)).set (k - 4) y) l [] (by rw [List.length_set]; rfl) hl
    rw [List.nil_append, List.append_nil, ← e] at ho
    rw [if_neg] at ho
    · exact ho
    · intro hc
      have h5 := (w4_be4 (l := (w4 (crc l)).set (k - 4) y) (by rw [List.length_set]; rfl) (crc_lt l)).2 hc
      have h6 : (w4 (crc l))[k - 4]'(by show k - 4 < 4; omega) = y := by
        have h7 : (w4 (crc l))[k - 4]? = some y := by rw [h5]; exact List.getElem?_set_self (by show k - 4 < 4; omega)
        have h8 := List.getElem?_eq_getElem (l := w4 (crc l)) (i := k - 4) (by show k - 4 < 4; omega)
        rw [h8] at h7
        exact Option.some.inj h7
      exact hy (h6.symm.trans g.symm)
  · have e : (sealed l).set k y = w4 l.length ++ (w4 (crc l) ++ l.set (k - 8) y) := by
      unfold sealed
      rw [List.set_append_right _ _ (by show 4 ≤ k; omega), show (w4 l.length).length = 4 from rfl, List.set_append_right _ _ (by show 4 ≤ k - 4; omega), show (w4 (crc l)).length = 4 from rfl, show k - 4 - 4 = k - 8 by omega]
    have g : (sealed l)[k] = l[k - 8]'(by omega) := by
      simp only [sealed]
      rw [List.getElem_append_right (by show 4 ≤ k; omega), List.getElem_append_right (by show 4 ≤ k - 4; omega)]
      rfl
    have ho := openB_at [] (w4 (crc l)) (l.set (k - 8) y) [] rfl (by rw [List.length_set]; exact hl)
    rw [List.nil_append, List.append_nil, List.length_set, ← e, be4_w4 (crc_lt l)] at ho
    rw [if_neg] at ho
    · exact ho
    · intro hc
      obtain ⟨h5, h6⟩ := set_split l (k - 8) y (by omega)
      rw [h5] at hc
      have : crc l = crc (l.take (k - 8) ++ l[k - 8]'(by omega) :: l.drop (k - 8 + 1)) := congrArg crc h6
      rw [this] at hc
      exact hy ((crc_byte _ _ hc).trans g.symm)
end Go.Proofs.YthfgjmdmcoogpaaDoor
