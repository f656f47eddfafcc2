/-
  PROVED HERE: numbers, values, rows out of bytes, in plain Lean. No program of its own.
-/
import Derived.Test.YtcmpjdnbjhkhdaaDoorPutPlain
namespace Go.Proofs.YtcmpjdnbjhkhdaaDoor
set_option linter.unusedSimpArgs false
set_option linter.unusedVariables false
open Go Go.RowKit

/-- seven bits a byte, read; 'k' further bytes may come; what is not the shortest is none. -/
def decN : Nat → Bool → List UInt8 → Option (Nat × List UInt8)
  | _, _, [] => none
  | 0, _, c :: r => if c.toNat = 1 then some (1, r) else none
  | k + 1, first, c :: r =>
    if c.toNat < 128 then (if c.toNat = 0 ∧ first = false then none else some (c.toNat, r)) else (decN k false r).map fun p => (c.toNat - 128 + 128 * p.1, p.2)
theorem ofNat_toNat (c : UInt8) : UInt8.ofNat c.toNat = c := by simp
theorem encN_big {k u : Nat} {c : UInt8} (hc : 128 ≤ c.toNat) (hu : 0 < u) : encN (k + 1) (c.toNat - 128 + 128 * u) = c :: encN k u := by
  have h := c.toNat_lt
  rw [encN, if_neg (by omega)]
  have e1 : (c.toNat - 128 + 128 * u) % 128 + 128 = c.toNat := by omega
  have e2 : (c.toNat - 128 + 128 * u) / 128 = u := by omega
  rw [e1, e2, ofNat_toNat]
theorem decN_sound : ∀ (k : Nat) (first : Bool) (l r : List UInt8) (u : Nat), decN k first l = some (u, r) → (first = false → 0 < u) ∧ u < 2 * 128 ^ k ∧ l = encN k u ++ r
  | k, first, [], r, u, h => by cases k <;> simp [decN] at h
  | 0, first, c :: l, r, u, h => by
    simp only [decN] at h
    split at h
    · rename_i hc
      simp only [Option.some.injEq, Prod.mk.injEq] at h
      obtain ⟨rfl, rfl⟩ := h
      have : c = UInt8.ofNat 1 := by rw [← hc, ofNat_toNat]
      subst this
      exact ⟨fun _ => by omega, by omega, rfl⟩
    · cases h
  | k + 1, first, c :: l, r, u, h => by
    simp only [decN] at h
    by_cases hc : c.toNat < 128
    · rw [if_pos hc] at h
      by_cases h0 : c.toNat = 0 ∧ first = false
      · rw [if_pos h0] at h; cases h
      · rw [if_neg h0] at h
        simp only [Option.some.injEq, Prod.mk.injEq] at h
        obtain ⟨rfl, rfl⟩ := h
        refine ⟨fun hf => ?_, ?_, ?_⟩
        · have : c.toNat ≠ 0 := fun h => h0 ⟨h, hf⟩
          omega
        · have : 1 ≤ 128 ^ k := Nat.one_le_pow _ _ (by decide)
          rw [Nat.pow_succ]; omega
        · rw [encN, if_pos hc, ofNat_toNat]; rfl
    · rw [if_neg hc] at h
      obtain ⟨⟨u', r'⟩, h1, h2⟩ := Option.map_eq_some_iff.1 h
      simp only [Prod.mk.injEq] at h2
      obtain ⟨rfl, rfl⟩ := h2
      obtain ⟨h3, h4, h5⟩ := decN_sound k false l r' u' h1
      have hp := h3 rfl
      have hb := c.toNat_lt
      refine ⟨fun _ => by omega, by rw [Nat.pow_succ]; omega, ?_⟩
      rw [encN_big (by omega) hp, h5]
      rfl
theorem decN_complete : ∀ (k : Nat) (first : Bool) (u : Nat) (r : List UInt8), u < 2 * 128 ^ k → (first = false → 0 < u) → (k = 0 → 0 < u) → decN k first (encN k u ++ r) = some (u, r)
  | 0, first, u, r, h, _, h0 => by
    obtain rfl : u = 1 := by have := h0 rfl; omega
    rfl
  | k + 1, first, u, r, h, hf, _ => by
    rw [encN]
    by_cases hu : u < 128
    · rw [if_pos hu]
      have e : (UInt8.ofNat u).toNat = u := by rw [UInt8.toNat_ofNat']; omega
      simp only [List.cons_append, List.nil_append, decN, e, if_pos hu]
      rw [if_neg]
      rintro ⟨h1, h2⟩
      have := hf h2
      omega
    · rw [if_neg hu]
      have e : (UInt8.ofNat (u % 128 + 128)).toNat = u % 128 + 128 := by rw [UInt8.toNat_ofNat']; omega
      simp only [List.cons_append, decN, e]
      rw [if_neg (by omega), decN_complete k false (u / 128) r (by rw [Nat.pow_succ] at h; omega) (fun _ => by omega) (fun _ => by omega)]
      simp only [Option.map_some, Option.some.injEq, Prod.mk.injEq, and_true]
      omega
/-- a number out of the one with its sign in the lowest bit. -/
def unzz (u : Nat) : Int := if u % 2 = 1 then -((u / 2 : Nat) : Int) - 1 else ((u / 2 : Nat) : Int)
theorem unzz_zz (n : Int) : unzz (zz n) = n := by
  unfold unzz zz
  by_cases h : 0 ≤ n
  · rw [if_pos h, if_neg (by omega)]; omega
  · rw [if_neg h, if_pos (by omega)]; omega
theorem zz_unzz (u : Nat) : zz (unzz u) = u := by
  unfold unzz
  by_cases h : u % 2 = 1
  · rw [if_pos h]; unfold zz; rw [if_neg (by omega)]; omega
  · rw [if_neg h]; unfold zz; rw [if_pos (by omega)]; omega
theorem unzz_range {u : Nat} (h : u < 2 ^ 64) : -9223372036854775808 ≤ unzz u ∧ unzz u ≤ 9223372036854775807 := by
  unfold unzz
  split <;> omega
theorem pow9 : 2 * 128 ^ 9 = 2 ^ 64 := by decide
theorem pow10' : (128 : Nat) ^ (9 + 1) = 64 * 2 ^ 64 := by decide
theorem encU_nine {u : Nat} (h : u < 2 ^ 64) : encU u = encN 9 u := (encN_stable 9 u (by rw [pow10']; omega)).symm
def dInt (l : List UInt8) : Option (Int × List UInt8) := (decN 9 true l).map fun p => (unzz p.1, p.2)
theorem dInt_enc {n : Int} (h1 : -9223372036854775808 ≤ n) (h2 : n ≤ 9223372036854775807) (r : List UInt8) : dInt (encInt n ++ r) = some (n, r) := by
  have hz := zz_lt h1 h2
  unfold dInt encInt
  rw [encU_nine hz, decN_complete 9 true (zz n) r (by rw [pow9]; exact hz) (by simp) (by simp)]
  simp [unzz_zz]
theorem dInt_sound {l r : List UInt8} {n : Int} (h : dInt l = some (n, r)) : l = encInt n ++ r ∧ -9223372036854775808 ≤ n ∧ n ≤ 9223372036854775807 := by
  obtain ⟨⟨u, r'⟩, h1, h2⟩ := Option.map_eq_some_iff.1 h
  simp only [Prod.mk.injEq] at h2
  obtain ⟨rfl, rfl⟩ := h2
  obtain ⟨-, h4, h5⟩ := decN_sound 9 true l r' u h1
  rw [pow9] at h4
  refine ⟨?_, unzz_range h4⟩
  unfold encInt
  rw [zz_unzz, encU_nine h4]
  exact h5
theorem dInt_len {l r : List UInt8} {n : Int} (h : dInt l = some (n, r)) : r.length < l.length := by
  have := (dInt_sound h).1
  have h2 := encInt_pos n
  rw [this, List.length_append]
  omega

/-- what bytes come to, the low seven bits of each. -/
def sumB : List UInt8 → Nat
  | [] => 0
  | c :: r => c.toNat % 128 + 128 * sumB r
theorem sumB_snoc : ∀ (l : List UInt8) (c : UInt8), sumB (l ++ [c]) = sumB l + c.toNat % 128 * 128 ^ l.length
  | [], c => by simp [sumB]
  | d :: l, c => by
    simp only [List.cons_append, sumB, sumB_snoc l c, List.length_cons, Nat.pow_succ]
    rw [Nat.mul_add, Nat.add_assoc]
    congr 2
    rw [Nat.mul_comm 128, Nat.mul_assoc]
theorem sumB_lt : ∀ l : List UInt8, sumB l < 128 ^ l.length
  | [] => by simp [sumB]
  | c :: l => by
    have := sumB_lt l
    simp only [sumB, List.length_cons, Nat.pow_succ]
    omega
theorem encN_shape : ∀ (k u : Nat), u < 128 ^ (k + 1) → ∃ init last, encN k u = init ++ [last] ∧ (∀ c ∈ init, 128 ≤ c.toNat) ∧ last.toNat < 128 ∧ init.length ≤ k ∧ sumB (encN k u) = u
  | 0, u, h => by
    have hu : u < 128 := by simpa using h
    have e : (UInt8.ofNat u).toNat = u := by rw [UInt8.toNat_ofNat']; omega
    exact ⟨[], UInt8.ofNat u, rfl, fun c hc => (by cases hc), by omega, by simp, by simp [encN, sumB, e]; omega⟩
  | k + 1, u, h => by
    rw [encN]
    by_cases hu : u < 128
    · have e : (UInt8.ofNat u).toNat = u := by rw [UInt8.toNat_ofNat']; omega
      rw [if_pos hu]
      exact ⟨[], UInt8.ofNat u, rfl, fun c hc => (by cases hc), by omega, by simp, by simp [sumB, e]; omega⟩
    · rw [if_neg hu]
      obtain ⟨init, last, h1, h2, h3, h4, h5⟩ := encN_shape k (u / 128) (Nat.div_lt_of_lt_mul (by rw [Nat.pow_succ] at h; omega))
      have e : (UInt8.ofNat (u % 128 + 128)).toNat = u % 128 + 128 := by rw [UInt8.toNat_ofNat']; omega
      refine ⟨UInt8.ofNat (u % 128 + 128) :: init, last, by rw [h1]; rfl, fun c hc => ?_, h3, by simp; omega, ?_⟩
      · rcases List.mem_cons.1 hc with rfl | hc
        · omega
        · exact h2 c hc
      · simp only [sumB, e, h5]
        omega
theorem encInt_shape {n : Int} (h1 : -9223372036854775808 ≤ n) (h2 : n ≤ 9223372036854775807) : ∃ init last, encInt n = init ++ [last] ∧ (∀ c ∈ init, 128 ≤ c.toNat) ∧ last.toNat < 128 ∧ init.length ≤ 9 ∧ sumB (encInt n) = zz n := by
  have hz := zz_lt h1 h2
  unfold encInt
  rw [encU_nine hz]
  exact encN_shape 9 (zz n) (by rw [pow10']; omega)

/-- bytes of which the first 'i' go on, and the next does not: of these alone a number can be. -/
theorem dInt_stop {l : List UInt8} {i : Nat} (hi : i < l.length) (hge : ∀ j (h : j < l.length), j < i → 128 ≤ l[j].toNat) (hlt : l[i].toNat < 128) :
    dInt l = if encInt (unzz (sumB (l.take (i + 1)) % 2 ^ 64)) = l.take (i + 1) then some (unzz (sumB (l.take (i + 1)) % 2 ^ 64), l.drop (i + 1)) else none := by
  split
  · rename_i he
    have hr := unzz_range (u := sumB (l.take (i + 1)) % 2 ^ 64) (Nat.mod_lt _ (by decide))
    have := dInt_enc hr.1 hr.2 (l.drop (i + 1))
    rw [he, List.take_append_drop] at this
    exact this
  · rename_i he
    cases hd : dInt l with
    | none => rfl
    | some p =>
      obtain ⟨n, r⟩ := p
      exfalso
      obtain ⟨h1, h2, h3⟩ := dInt_sound hd
      obtain ⟨init, last, e1, e2, e3, e4, e5⟩ := encInt_shape h2 h3
      rw [e1, List.append_assoc] at h1
      have hil : i = init.length := by
        rcases Nat.lt_trichotomy i init.length with hlt' | heq | hgt
        · have hx : l[i] = init[i] := by simp only [h1, List.getElem_append_left hlt']
          have := e2 _ (List.getElem_mem hlt')
          rw [← hx] at this
          omega
        · exact heq
        · have hlen : init.length < l.length := by omega
          have hx : l[init.length] = last := by simp [h1]
          have := hge init.length hlen hgt
          rw [hx] at this
          omega
      have htk : l.take (i + 1) = encInt n := by
        rw [h1, e1, hil, ← List.append_assoc, List.take_append_of_le_length (by simp), List.take_of_length_le (by simp)]
      rw [htk, e5, Nat.mod_eq_of_lt (zz_lt h2 h3), unzz_zz] at he
      exact he rfl
theorem dInt_never {l : List UInt8} {i : Nat} (hge : ∀ j (h : j < l.length), j < i → 128 ≤ l[j].toNat) (hi : i = l.length ∨ 10 ≤ i) : dInt l = none := by
  cases hd : dInt l with
  | none => rfl
  | some p =>
    obtain ⟨n, r⟩ := p
    exfalso
    obtain ⟨h1, h2, h3⟩ := dInt_sound hd
    obtain ⟨init, last, e1, e2, e3, e4, e5⟩ := encInt_shape h2 h3
    rw [e1, List.append_assoc] at h1
    have hll : init.length < l.length := by rw [h1]; simp
    have hx : l[init.length] = last := by simp [h1]
    have := hge init.length hll (by omega)
    rw [hx] at this
    omega

/-- a text. -/
def dText (l : List UInt8) : Option (ByteArray × List UInt8) :=
  match dInt l with
  | none => none
  | some (n, r) => if n < 0 ∨ (r.length : Int) < n then none else some (strB (r.take n.toNat), r.drop n.toNat)
theorem dText_len {l r : List UInt8} {t : ByteArray} (h : dText l = some (t, r)) : r.length < l.length := by
  unfold dText at h
  cases hd : dInt l with
  | none => rw [hd] at h; cases h
  | some p =>
    obtain ⟨n, r'⟩ := p
    rw [hd] at h
    simp only at h
    split at h
    · cases h
    · simp only [Option.some.injEq, Prod.mk.injEq] at h
      have := dInt_len hd
      rw [← h.2, List.length_drop]
      omega
/-- a decoder goes on 'n' times. -/
def dMany {α : Type} (d : List UInt8 → Option (α × List UInt8)) : Nat → List UInt8 → Option (List α × List UInt8)
  | 0, l => some ([], l)
  | n + 1, l => match d l with
    | none => none
    | some (x, r) => (dMany d n r).map fun p => (x :: p.1, p.2)
theorem dMany_snoc {α : Type} {d : List UInt8 → Option (α × List UInt8)} : ∀ (n m : Nat) (l : List UInt8), dMany d (n + m) l = match dMany d n l with | none => none | some (xs, r) => (dMany d m r).map fun p => (xs ++ p.1, p.2)
  | 0, m, l => by simp [dMany]
  | n + 1, m, l => by
    rw [show n + 1 + m = (n + m) + 1 by omega]
    simp only [dMany]
    cases hd : d l with
    | none => rfl
    | some p =>
      obtain ⟨x, r⟩ := p
      simp only
      rw [dMany_snoc n m r]
      cases hn : dMany d n r with
      | none => rfl
      | some q =>
        obtain ⟨xs, r'⟩ := q
        simp only [Option.map_some]
        cases hm : dMany d m r' with
        | none => rfl
        | some q2 => rfl
theorem dMany_step {α : Type} {d : List UInt8 → Option (α × List UInt8)} {n : Nat} {l r r' : List UInt8} {xs : List α} {x : α} (h : dMany d n l = some (xs, r)) (hd : d r = some (x, r')) : dMany d (n + 1) l = some (xs ++ [x], r') := by
  rw [dMany_snoc, h]
  simp [dMany, hd]
theorem dMany_stop {α : Type} {d : List UInt8 → Option (α × List UInt8)} {n m : Nat} {l r : List UInt8} {xs : List α} (h : dMany d n l = some (xs, r)) (hd : d r = none) (hm : n < m) : dMany d m l = none := by
  obtain ⟨k, rfl⟩ : ∃ k, m = n + (k + 1) := ⟨m - n - 1, by omega⟩
  rw [dMany_snoc, h]
  simp [dMany, hd]
theorem dMany_len {α : Type} {d : List UInt8 → Option (α × List UInt8)} (hd : ∀ l x r, d l = some (x, r) → r.length < l.length) : ∀ (n : Nat) (l r : List UInt8) (xs : List α), dMany d n l = some (xs, r) → r.length + n ≤ l.length ∧ xs.length = n
  | 0, l, r, xs, h => by
    simp only [dMany, Option.some.injEq, Prod.mk.injEq] at h
    rw [← h.1, ← h.2]
    simp
  | n + 1, l, r, xs, h => by
    simp only [dMany] at h
    cases hx : d l with
    | none => rw [hx] at h; cases h
    | some p =>
      obtain ⟨x, r1⟩ := p
      rw [hx] at h
      obtain ⟨⟨ys, r2⟩, h1, h2⟩ := Option.map_eq_some_iff.1 h
      simp only [Prod.mk.injEq] at h2
      have := hd _ _ _ hx
      have ih := dMany_len hd n r1 r2 ys h1
      rw [← h2.1, ← h2.2, List.length_cons]
      omega
end Go.Proofs.YtcmpjdnbjhkhdaaDoor
