/-
  PROVED HERE: in plain Lean: the order of values, rows is total; there is one list of the same rows in their order. No program of its own.
  PROVED HERE: numbers, values, rows out of bytes, in plain Lean. No program of its own.
  PROVED HERE: the contracts of wire.Reader: take, Int, Text.
-/
import Derived.Test.YtgcnchmnciihnaaGreatDoorGU8
import Derived.Test.YtgcnchmnciihnaaGreatDoorGOpen
import Derived.Test.YtgcnchmnciihnaaGreatDoorGPutLaws
import Derived.OwnWalk
import Derived.Lib.SliceRun
namespace Go.Proofs.YtgcnchmnciihnaaGreatDoor
set_option linter.unusedSimpArgs false
set_option linter.unusedVariables false
open Go Go.RowKit

/-- a comparison that is an order, total. -/
structure TotalC {α : Type} (c : α → α → Int) : Prop where
  eq : ∀ x y, c x y = 0 ↔ x = y
  neg : ∀ x y, c y x = -(c x y)
  trans : ∀ x y z, c x y < 0 → c y z < 0 → c x z < 0
theorem cmpI_total : TotalC cmpI := by
  refine ⟨fun x y => ?_, fun x y => ?_, fun x y z h1 h2 => ?_⟩ <;> unfold cmpI at * <;> (repeat' split) <;> (repeat' split at *) <;> omega
def lex2 {α β : Type} (c : α → α → Int) (d : β → β → Int) (x y : α × β) : Int := if c x.1 y.1 = 0 then d x.2 y.2 else c x.1 y.1
theorem lex2_total {α β : Type} {c : α → α → Int} {d : β → β → Int} (hc : TotalC c) (hd : TotalC d) : TotalC (lex2 c d) := by
  refine ⟨fun x y => ?_, fun x y => ?_, fun x y z h1 h2 => ?_⟩
  · unfold lex2
    by_cases h : c x.1 y.1 = 0
    · rw [if_pos h, hd.eq]
      have := (hc.eq _ _).1 h
      exact ⟨fun e => Prod.ext this e, fun e => by rw [e]⟩
    · rw [if_neg h]
      exact ⟨fun e => absurd e h, fun e => absurd ((hc.eq _ _).2 (by rw [e])) h⟩
  · unfold lex2
    have e := hc.neg x.1 y.1
    by_cases h : c x.1 y.1 = 0
    · rw [if_pos h, if_pos (by omega)]; exact hd.neg _ _
    · rw [if_neg h, if_neg (by omega)]; exact e
  · unfold lex2 at *
    by_cases ha : c x.1 y.1 = 0
    · rw [if_pos ha] at h1
      have ea := (hc.eq _ _).1 ha
      rw [ea]
      by_cases hb : c y.1 z.1 = 0
      · rw [if_pos hb] at h2 ⊢
        exact hd.trans _ _ _ h1 h2
      · rw [if_neg hb] at h2 ⊢
        exact h2
    · rw [if_neg ha] at h1
      by_cases hb : c y.1 z.1 = 0
      · have eb := (hc.eq _ _).1 hb
        rw [← eb, if_neg ha]
        exact h1
      · rw [if_neg hb] at h2
        have ht := hc.trans _ _ _ h1 h2
        rw [if_neg (by omega)]
        exact ht
def lexL {α : Type} (c : α → α → Int) : List α → List α → Int
  | [], [] => 0
  | [], _ :: _ => -1
  | _ :: _, [] => 1
  | x :: a, y :: b => if c x y = 0 then lexL c a b else c x y
theorem lexL_total {α : Type} {c : α → α → Int} (hc : TotalC c) : TotalC (lexL c) := by
  refine ⟨?_, ?_, ?_⟩
  · intro x
    induction x with
    | nil => intro y; cases y <;> simp [lexL]
    | cons x a ih =>
      intro y
      cases y with
      | nil => simp [lexL]
      | cons y b =>
        unfold lexL
        by_cases h : c x y = 0
        · rw [if_pos h, ih, (hc.eq _ _).1 h]; simp
        · rw [if_neg h]
          exact ⟨fun e => absurd e h, fun e => absurd ((hc.eq _ _).2 (List.cons.inj e).1) h⟩
  · intro x
    induction x with
    | nil => intro y; cases y <;> simp [lexL]
    | cons x a ih =>
      intro y
      cases y with
      | nil => simp [lexL]
      | cons y b =>
        unfold lexL
        have e := hc.neg x y
        by_cases h : c x y = 0
        · rw [if_pos h, if_pos (by omega)]; exact ih b
        · rw [if_neg h, if_neg (by omega)]; exact e
  · intro x
    induction x with
    | nil =>
      intro y z h1 h2
      cases z with
      | nil => cases y <;> simp [lexL] at h1 h2
      | cons z d => simp [lexL]
    | cons x a ih =>
      intro y z h1 h2
      cases y with
      | nil => simp [lexL] at h1
      | cons y b =>
        cases z with
        | nil => simp [lexL] at h2
        | cons z d =>
          unfold lexL at h1 h2 ⊢
          by_cases ha : c x y = 0
          · rw [if_pos ha] at h1
            rw [(hc.eq _ _).1 ha]
            by_cases hb : c y z = 0
            · rw [if_pos hb] at h2 ⊢
              exact ih _ _ h1 h2
            · rw [if_neg hb] at h2 ⊢
              exact h2
          · rw [if_neg ha] at h1
            by_cases hb : c y z = 0
            · rw [← (hc.eq _ _).1 hb, if_neg ha]
              exact h1
            · rw [if_neg hb] at h2
              have ht := hc.trans _ _ _ h1 h2
              rw [if_neg (by omega)]
              exact ht
theorem TotalC.comap {α β : Type} {c : α → α → Int} (hc : TotalC c) (f : β → α) (hf : ∀ x y, f x = f y → x = y) : TotalC fun x y => c (f x) (f y) :=
  ⟨fun x y => by rw [hc.eq]; exact ⟨hf x y, fun e => by rw [e]⟩, fun x y => hc.neg _ _, fun x y z => hc.trans _ _ _⟩
theorem TotalC.congr {α : Type} {c d : α → α → Int} (hc : TotalC c) (h : ∀ x y, d x y = c x y) : TotalC d := by
  have : d = c := funext fun x => funext fun y => h x y
  rw [this]; exact hc
def cmpB (a b : UInt8) : Int := cmpI a.toNat b.toNat
theorem cmpB_total : TotalC cmpB := cmpI_total.comap (fun x : UInt8 => (x.toNat : Int)) fun x y h => UInt8.toNat_inj.1 (by omega)
theorem bytes_lex : ∀ a b : List UInt8, Lib.compareBytes a b = lexL cmpB a b
  | [], [] => rfl
  | [], _ :: _ => rfl
  | _ :: _, [] => rfl
  | x :: a, y :: b => by
    have ih := bytes_lex a b
    unfold Lib.compareBytes lexL cmpB cmpI
    rw [ih]
    simp only [UInt8.lt_iff_toNat_lt]
    by_cases h : x.toNat < y.toNat
    · rw [if_pos h, if_neg (by rw [if_pos (by omega)]; omega), if_pos (by omega)]
    · by_cases h' : y.toNat < x.toNat
      · rw [if_neg h, if_pos h', if_neg (by rw [if_neg (by omega), if_pos (by omega)]; omega), if_neg (by omega), if_pos (by omega)]
      · rw [if_neg h, if_neg h', if_pos (by rw [if_neg (by omega), if_neg (by omega)])]
        rfl
theorem compareV_total : TotalC compareV := by
  refine ((lex2_total cmpI_total (lex2_total cmpI_total (lexL_total cmpB_total))).comap (fun x : Val => (x.k, x.n, x.t.data.toList)) fun x y h => ?_).congr fun x y => ?_
  · simp only [Prod.mk.injEq] at h
    obtain ⟨k1, n1, t1⟩ := x
    obtain ⟨k2, n2, t2⟩ := y
    simp only at h
    obtain ⟨rfl, rfl, h3⟩ := h
    have : t1 = t2 := by cases t1; cases t2; simp only at h3; congr 1; exact Array.toList_inj.1 h3
    rw [this]
  · unfold compareV
    rw [orL3, bytes_lex]
    rfl
theorem compareL_lex : ∀ a b : List Val, compareL a b = lexL compareV a b
  | [], [] => rfl
  | [], _ :: _ => rfl
  | _ :: _, [] => rfl
  | x :: a, y :: b => by unfold compareL lexL; rw [compareL_lex a b]
theorem compareR_total : TotalC compareR := by
  refine ((lex2_total cmpI_total (lexL_total compareV_total)).comap (fun x : Row => (x.time, x.vals)) fun x y h => ?_).congr fun x y => ?_
  · simp only [Prod.mk.injEq] at h
    obtain ⟨t1, l1⟩ := x
    obtain ⟨t2, l2⟩ := y
    simp only at h
    rw [h.1, h.2]
  · unfold compareR
    rw [orL2, compareL_lex]
    rfl
theorem beforeR_cmp (x y : Row) : beforeR x y = decide (compareR x y < 0) := by
  have h := compareR_eq x y
  have e := compareR_eq y x
  have n := compareR_total.neg x y
  rw [h, e] at n
  rw [h]
  unfold signI at *
  cases hb : beforeR x y <;> cases hc : beforeR y x <;> simp [hb, hc] at n ⊢
/-- rows in their order. -/
def SortedR (l : List Row) : Prop := l.Pairwise fun a b => 0 ≤ compareR b a
theorem sortedR_unique : ∀ {a b : List Row}, SortedR a → SortedR b → a.Perm b → a = b
  | [], b, _, _, hp => (List.nil_perm.1 hp).symm
  | x :: a, [], _, _, hp => absurd (List.perm_nil.1 hp) (by simp)
  | x :: a, y :: b, ha, hb, hp => by
    have pa := List.pairwise_cons.1 ha
    have pb := List.pairwise_cons.1 hb
    have hxy : x = y := by
      have h1 : 0 ≤ compareR y x := by
        rcases List.mem_cons.1 (hp.mem_iff.2 List.mem_cons_self : y ∈ x :: a) with rfl | hm
        · have := (compareR_total.eq y y).2 rfl; omega
        · exact pa.1 y hm
      have h2 : 0 ≤ compareR x y := by
        rcases List.mem_cons.1 (hp.mem_iff.1 List.mem_cons_self : x ∈ y :: b) with rfl | hm
        · have := (compareR_total.eq x x).2 rfl; omega
        · exact pb.1 x hm
      have := compareR_total.neg x y
      exact (compareR_total.eq x y).1 (by omega)
    subst hxy
    rw [sortedR_unique pa.2 pb.2 (List.perm_cons x |>.1 hp)]
end Go.Proofs.YtgcnchmnciihnaaGreatDoor
namespace Go.Proofs.YtgcnchmnciihnaaGreatDoor
set_option linter.unusedSimpArgs false
set_option linter.unusedVariables false
open Go Go.RowKit

/-- seven bits a byte, read; 'k' further bytes may come; what is not the shortest is none. -/
def decN : Nat → Bool → List UInt8 → Option (Nat × List UInt8)
  | _, _, [] => none
  | 0, _, c :: r => if c.toNat = 1 then some (1, r) else none
  | k + 1, first, c :: r =>
    if c.toNat < 128 then (if c.toNat = 0 ∧ first = false then none else some (c.toNat, r)) else (decN k false r).map fun p => (c.toNat - 128 + 128 * p.1, p.2)
theorem ofNat_toNat (c : UInt8) : UInt8.ofNat c.toNat = c := by simp
theorem encN_big {k u : Nat} {c : UInt8} (hc : 128 ≤ c.toNat) (hu : 0 < u) : encN (k + 1) (c.toNat - 128 + 128 * u) = c :: encN k u := by
  have h := c.toNat_lt
  rw [encN, if_neg (by omega)]
  have e1 : (c.toNat - 128 + 128 * u) % 128 + 128 = c.toNat := by omega
  have e2 : (c.toNat - 128 + 128 * u) / 128 = u := by omega
  rw [e1, e2, ofNat_toNat]
theorem decN_sound : ∀ (k : Nat) (first : Bool) (l r : List UInt8) (u : Nat), decN k first l = some (u, r) → (first = false → 0 < u) ∧ u < 2 * 128 ^ k ∧ l = encN k u ++ r
  | k, first, [], r, u, h => by cases k <;> simp [decN] at h
  | 0, first, c :: l, r, u, h => by
    simp only [decN] at h
    split at h
    · rename_i hc
      simp only [Option.some.injEq, Prod.mk.injEq] at h
      obtain ⟨rfl, rfl⟩ := h
      have : c = UInt8.ofNat 1 := by rw [← hc, ofNat_toNat]
      subst this
      exact ⟨fun _ => by omega, by omega, rfl⟩
    · cases h
  | k + 1, first, c :: l, r, u, h => by
    simp only [decN] at h
    by_cases hc : c.toNat < 128
    · rw [if_pos hc] at h
      by_cases h0 : c.toNat = 0 ∧ first = false
      · rw [if_pos h0] at h; cases h
      · rw [if_neg h0] at h
        simp only [Option.some.injEq, Prod.mk.injEq] at h
        obtain ⟨rfl, rfl⟩ := h
        refine ⟨fun hf => ?_, ?_, ?_⟩
        · have : c.toNat ≠ 0 := fun h => h0 ⟨h, hf⟩
          omega
        · have : 1 ≤ 128 ^ k := Nat.one_le_pow _ _ (by decide)
          rw [Nat.pow_succ]; omega
        · rw [encN, if_pos hc, ofNat_toNat]; rfl
    · rw [if_neg hc] at h
      obtain ⟨⟨u', r'⟩, h1, h2⟩ := Option.map_eq_some_iff.1 h
      simp only [Prod.mk.injEq] at h2
      obtain ⟨rfl, rfl⟩ := h2
      obtain ⟨h3, h4, h5⟩ := decN_sound k false l r' u' h1
      have hp := h3 rfl
      have hb := c.toNat_lt
      refine ⟨fun _ => by omega, by rw [Nat.pow_succ]; omega, ?_⟩
      rw [encN_big (by omega) hp, h5]
      rfl
theorem decN_complete : ∀ (k : Nat) (first : Bool) (u : Nat) (r : List UInt8), u < 2 * 128 ^ k → (first = false → 0 < u) → (k = 0 → 0 < u) → decN k first (encN k u ++ r) = some (u, r)
  | 0, first, u, r, h, _, h0 => by
    obtain rfl : u = 1 := by have := h0 rfl; omega
    rfl
  | k + 1, first, u, r, h, hf, _ => by
    rw [encN]
    by_cases hu : u < 128
    · rw [if_pos hu]
      have e : (UInt8.ofNat u).toNat = u := by rw [UInt8.toNat_ofNat']; omega
      simp only [List.cons_append, List.nil_append, decN, e, if_pos hu]
      rw [if_neg]
      rintro ⟨h1, h2⟩
      have := hf h2
      omega
    · rw [if_neg hu]
      have e : (UInt8.ofNat (u % 128 + 128)).toNat = u % 128 + 128 := by rw [UInt8.toNat_ofNat']; omega
      simp only [List.cons_append, decN, e]
      rw [if_neg (by omega), decN_complete k false (u / 128) r (by rw [Nat.pow_succ] at h; omega) (fun _ => by omega) (fun _ => by omega)]
      simp only [Option.map_some, Option.some.injEq, Prod.mk.injEq, and_true]
      omega
/-- a number out of the one with its sign in the lowest bit. -/
def unzz (u : Nat) : Int := if u % 2 = 1 then -((u / 2 : Nat) : Int) - 1 else ((u / 2 : Nat) : Int)
theorem unzz_zz (n : Int) : unzz (zz n) = n := by
  unfold unzz zz
  by_cases h : 0 ≤ n
  · rw [if_pos h, if_neg (by omega)]; omega
  · rw [if_neg h, if_pos (by omega)]; omega
theorem zz_unzz (u : Nat) : zz (unzz u) = u := by
  unfold unzz
  by_cases h : u % 2 = 1
  · rw [if_pos h]; unfold zz; rw [if_neg (by omega)]; omega
  · rw [if_neg h]; unfold zz; rw [if_pos (by omega)]; omega
theorem unzz_range {u : Nat} (h : u < 2 ^ 64) : -9223372036854775808 ≤ unzz u ∧ unzz u ≤ 9223372036854775807 := by
  unfold unzz
  split <;> omega
theorem pow9 : 2 * 128 ^ 9 = 2 ^ 64 := by decide
theorem pow10' : (128 : Nat) ^ (9 + 1) = 64 * 2 ^ 64 := by decide
theorem encU_nine {u : Nat} (h : u < 2 ^ 64) : encU u = encN 9 u := (encN_stable 9 u (by rw [pow10']; omega)).symm
def dInt (l : List UInt8) : Option (Int × List UInt8) := (decN 9 true l).map fun p => (unzz p.1, p.2)
theorem dInt_enc {n : Int} (h1 : -9223372036854775808 ≤ n) (h2 : n ≤ 9223372036854775807) (r : List UInt8) : dInt (encInt n ++ r) = some (n, r) := by
  have hz := zz_lt h1 h2
  unfold dInt encInt
  rw [encU_nine hz, decN_complete 9 true (zz n) r (by rw [pow9]; exact hz) (by simp) (by simp)]
  simp [unzz_zz]
theorem dInt_sound {l r : List UInt8} {n : Int} (h : dInt l = some (n, r)) : l = encInt n ++ r ∧ -9223372036854775808 ≤ n ∧ n ≤ 9223372036854775807 := by
  obtain ⟨⟨u, r'⟩, h1, h2⟩ := Option.map_eq_some_iff.1 h
  simp only [Prod.mk.injEq] at h2
  obtain ⟨rfl, rfl⟩ := h2
  obtain ⟨-, h4, h5⟩ := decN_sound 9 true l r' u h1
  rw [pow9] at h4
  refine ⟨?_, unzz_range h4⟩
  unfold encInt
  rw [zz_unzz, encU_nine h4]
  exact h5
theorem dInt_len {l r : List UInt8} {n : Int} (h : dInt l = some (n, r)) : r.length < l.length := by
  have := (dInt_sound h).1
  have h2 := encInt_pos n
  rw [this, List.length_append]
  omega

/-- what bytes come to, the low seven bits of each. -/
def sumB : List UInt8 → Nat
  | [] => 0
  | c :: r => c.toNat % 128 + 128 * sumB r
theorem sumB_snoc : ∀ (l : List UInt8) (c : UInt8), sumB (l ++ [c]) = sumB l + c.toNat % 128 * 128 ^ l.length
  | [], c => by simp [sumB]
  | d :: l, c => by
    simp only [List.cons_append, sumB, sumB_snoc l c, List.length_cons, Nat.pow_succ]
    rw [Nat.mul_add, Nat.add_assoc]
    congr 2
    rw [Nat.mul_comm 128, Nat.mul_assoc]
theorem sumB_lt : ∀ l : List UInt8, sumB l < 128 ^ l.length
  | [] => by simp [sumB]
  | c :: l => by
    have := sumB_lt l
    simp only [sumB, List.length_cons, Nat.pow_succ]
    omega
theorem encN_shape : ∀ (k u : Nat), u < 128 ^ (k + 1) → ∃ init last, encN k u = init ++ [last] ∧ (∀ c ∈ init, 128 ≤ c.toNat) ∧ last.toNat < 128 ∧ init.length ≤ k ∧ sumB (encN k u) = u
  | 0, u, h => by
    have hu : u < 128 := by simpa using h
    have e : (UInt8.ofNat u).toNat = u := by rw [UInt8.toNat_ofNat']; omega
    exact ⟨[], UInt8.ofNat u, rfl, fun c hc => (by cases hc), by omega, by simp, by simp [encN, sumB, e]; omega⟩
  | k + 1, u, h => by
    rw [encN]
    by_cases hu : u < 128
    · have e : (UInt8.ofNat u).toNat = u := by rw [UInt8.toNat_ofNat']; omega
      rw [if_pos hu]
      exact ⟨[], UInt8.ofNat u, rfl, fun c hc => (by cases hc), by omega, by simp, by simp [sumB, e]; omega⟩
    · rw [if_neg hu]
      obtain ⟨init, last, h1, h2, h3, h4, h5⟩ := encN_shape k (u / 128) (Nat.div_lt_of_lt_mul (by rw [Nat.pow_succ] at h; omega))
      have e : (UInt8.ofNat (u % 128 + 128)).toNat = u % 128 + 128 := by rw [UInt8.toNat_ofNat']; omega
      refine ⟨UInt8.ofNat (u % 128 + 128) :: init, last, by rw [h1]; rfl, fun c hc => ?_, h3, by simp; omega, ?_⟩
      · rcases List.mem_cons.1 hc with rfl | hc
        · omega
        · exact h2 c hc
      · simp only [sumB, e, h5]
        omega
theorem encInt_shape {n : Int} (h1 : -9223372036854775808 ≤ n) (h2 : n ≤ 9223372036854775807) : ∃ init last, encInt n = init ++ [last] ∧ (∀ c ∈ init, 128 ≤ c.toNat) ∧ last.toNat < 128 ∧ init.length ≤ 9 ∧ sumB (encInt n) = zz n := by
  have hz := zz_lt h1 h2
  unfold encInt
  rw [encU_nine hz]
  exact encN_shape 9 (zz n) (by rw [pow10']; omega)

/-- bytes of which the first 'i' go on, and the next does not: of these alone a number can be. -/
theorem dInt_stop {l : List UInt8} {i : Nat} (hi : i < l.length) (hge : ∀ j (h : j < l.length), j < i → 128 ≤ l[j].toNat) (hlt : l[i].toNat < 128) :
    dInt l = if encInt (unzz (sumB (l.take (i + 1)) % 2 ^ 64)) = l.take (i + 1) then some (unzz (sumB (l.take (i + 1)) % 2 ^ 64), l.drop (i + 1)) else none := by
  split
  · rename_i he
    have hr := unzz_range (u := sumB (l.take (i + 1)) % 2 ^ 64) (Nat.mod_lt _ (by decide))
    have := dInt_enc hr.1 hr.2 (l.drop (i + 1))
    rw [he, List.take_append_drop] at this
    exact this
  · rename_i he
    cases hd : dInt l with
    | none => rfl
    | some p =>
      obtain ⟨n, r⟩ := p
      exfalso
      obtain ⟨h1, h2, h3⟩ := dInt_sound hd
      obtain ⟨init, last, e1, e2, e3, e4, e5⟩ := encInt_shape h2 h3
      rw [e1, List.append_assoc] at h1
      have hil : i = init.length := by
        rcases Nat.lt_trichotomy i init.length with hlt' | heq | hgt
        · have hx : l[i] = init[i] := by simp only [h1, List.getElem_append_left hlt']
          have := e2 _ (List.getElem_mem hlt')
          rw [← hx] at this
          omega
        · exact heq
        · have hlen : init.length < l.length := by omega
          have hx : l[init.length] = last := by simp [h1]
          have := hge init.length hlen hgt
          rw [hx] at this
          omega
      have htk : l.take (i + 1) = encInt n := by
        rw [h1, e1, hil, ← List.append_assoc, List.take_append_of_le_length (by simp), List.take_of_length_le (by simp)]
      rw [htk, e5, Nat.mod_eq_of_lt (zz_lt h2 h3), unzz_zz] at he
      exact he rfl
theorem dInt_never {l : List UInt8} {i : Nat} (hge : ∀ j (h : j < l.length), j < i → 128 ≤ l[j].toNat) (hi : i = l.length ∨ 10 ≤ i) : dInt l = none := by
  cases hd : dInt l with
  | none => rfl
  | some p =>
    obtain ⟨n, r⟩ := p
    exfalso
    obtain ⟨h1, h2, h3⟩ := dInt_sound hd
    obtain ⟨init, last, e1, e2, e3, e4, e5⟩ := encInt_shape h2 h3
    rw [e1, List.append_assoc] at h1
    have hll : init.length < l.length := by rw [h1]; simp
    have hx : l[init.length] = last := by simp [h1]
    have := hge init.length hll (by omega)
    rw [hx] at this
    omega

/-- a text. -/
def dText (l : List UInt8) : Option (ByteArray × List UInt8) :=
  match dInt l with
  | none => none
  | some (n, r) => if n < 0 ∨ (r.length : Int) < n then none else some (strB (r.take n.toNat), r.drop n.toNat)
theorem dText_len {l r : List UInt8} {t : ByteArray} (h : dText l = some (t, r)) : r.length < l.length := by
  unfold dText at h
  cases hd : dInt l with
  | none => rw [hd] at h; cases h
  | some p =>
    obtain ⟨n, r'⟩ := p
    rw [hd] at h
    simp only at h
    split at h
    · cases h
    · simp only [Option.some.injEq, Prod.mk.injEq] at h
      have := dInt_len hd
      rw [← h.2, List.length_drop]
      omega
/-- a decoder goes on 'n' times. -/
def dMany {α : Type} (d : List UInt8 → Option (α × List UInt8)) : Nat → List UInt8 → Option (List α × List UInt8)
  | 0, l => some ([], l)
  | n + 1, l => match d l with
    | none => none
    | some (x, r) => (dMany d n r).map fun p => (x :: p.1, p.2)
theorem dMany_snoc {α : Type} {d : List UInt8 → Option (α × List UInt8)} : ∀ (n m : Nat) (l : List UInt8), dMany d (n + m) l = match dMany d n l with | none => none | some (xs, r) => (dMany d m r).map fun p => (xs ++ p.1, p.2)
  | 0, m, l => by simp [dMany]
  | n + 1, m, l => by
    rw [show n + 1 + m = (n + m) + 1 by omega]
    simp only [dMany]
    cases hd : d l with
    | none => rfl
    | some p =>
      obtain ⟨x, r⟩ := p
      simp only
      rw [dMany_snoc n m r]
      cases hn : dMany d n r with
      | none => rfl
      | some q =>
        obtain ⟨xs, r'⟩ := q
        simp only [Option.map_some]
        cases hm : dMany d m r' with
        | none => rfl
        | some q2 => rfl
theorem dMany_step {α : Type} {d : List UInt8 → Option (α × List UInt8)} {n : Nat} {l r r' : List UInt8} {xs : List α} {x : α} (h : dMany d n l = some (xs, r)) (hd : d r = some (x, r')) : dMany d (n + 1) l = some (xs ++ [x], r') := by
  rw [dMany_snoc, h]
  simp [dMany, hd]
theorem dMany_stop {α : Type} {d : List UInt8 → Option (α × List UInt8)} {n m : Nat} {l r : List UInt8} {xs : List α} (h : dMany d n l = some (xs, r)) (hd : d r = none) (hm : n < m) : dMany d m l = none := by
  obtain ⟨k, rfl⟩ : ∃ k, m = n + (k + 1) := ⟨m - n - 1, by omega⟩
  rw [dMany_snoc, h]
  simp [dMany, hd]
theorem dMany_len {α : Type} {d : List UInt8 → Option (α × List UInt8)} (hd : ∀ l x r, d l = some (x, r) → r.length < l.length) : ∀ (n : Nat) (l r : List UInt8) (xs : List α), dMany d n l = some (xs, r) → r.length + n ≤ l.length ∧ xs.length = n
  | 0, l, r, xs, h => by
    simp only [dMany, Option.some.injEq, Prod.mk.injEq] at h
    rw [← h.1, ← h.2]
    simp
  | n + 1, l, r, xs, h => by
    simp only [dMany] at h
    cases hx : d l with
    | none => rw [hx] at h; cases h
    | some p =>
      obtain ⟨x, r1⟩ := p
      rw [hx] at h
      obtain ⟨⟨ys, r2⟩, h1, h2⟩ := Option.map_eq_some_iff.1 h
      simp only [Prod.mk.injEq] at h2
      have := hd _ _ _ hx
      have ih := dMany_len hd n r1 r2 ys h1
      rw [← h2.1, ← h2.2, List.length_cons]
      omega
end Go.Proofs.YtgcnchmnciihnaaGreatDoor
namespace Go.Proofs.YtgcnchmnciihnaaGreatDoor
set_option linter.unusedSimpArgs false
set_option linter.unusedVariables false
open Go.RowKit

theorem run_eql_nil8 (w : World) (a : Option Addr) (n c : Nat) : (binOp .eql 35 (.slice a n c) (.slice none 0 0)).run Tryz.prog w = .ok (.bool a.isNone) w := Lib.run_eql_slice_nil w _ _ a n c 0 0 Tryz.underlying35
/-- a reader of bytes in memory: what is left, and whether something was not as it should be. -/
def RdB (w : World) (R : Nat) (bad : Bool) (l : List UInt8) : Prop :=
  ∃ v, w.heap[R]? = some (.cells #[v, .bool bad] 152 (0, 0)) ∧ BytesIn (fun b => b < R) w v l
theorem RdB.later {w w' : World} {R : Nat} {bad : Bool} {l : List UInt8} (h : RdB w R bad l) (k : Later w w') : RdB w' R bad l := let ⟨v, h1, h2⟩ := h; ⟨v, k.obj h1, h2.bytes_later k⟩
theorem RdB.lt {w : World} {R : Nat} {bad : Bool} {l : List UInt8} (h : RdB w R bad l) : R < w.heap.size := let ⟨_, h1, _⟩ := h; (Array.getElem?_eq_some_iff.1 h1).1
theorem RdB.fail {w : World} {R : Nat} {bad : Bool} {l : List UInt8} (h : RdB w R bad l) : RdB (w.setCell ⟨R, 1, none⟩ (.bool true)) R true l ∧ Keeps (fun b => b ≠ R) w (w.setCell ⟨R, 1, none⟩ (.bool true)) := by
  obtain ⟨v, h1, h2⟩ := h
  have hk : Keeps (fun b => b ≠ R) w (w.setCell ⟨R, 1, none⟩ (.bool true)) := (Keeps.refl _ _).setCell (.inl (by simp)) _
  exact ⟨⟨v, obj_setCell (i := 1) h1 _, h2.bytes_kept hk fun _ hb => Nat.ne_of_lt hb⟩, hk⟩
theorem RdB.put {w : World} {R : Nat} {bad : Bool} {l : List UInt8} (h : RdB w R bad l) (b : Bool) : RdB (w.setCell ⟨R, 1, none⟩ (.bool b)) R b l ∧ Keeps (fun b => b ≠ R) w (w.setCell ⟨R, 1, none⟩ (.bool b)) := by
  obtain ⟨v, h1, h2⟩ := h
  have hk : Keeps (fun b => b ≠ R) w (w.setCell ⟨R, 1, none⟩ (.bool b)) := (Keeps.refl _ _).setCell (.inl (by simp)) _
  exact ⟨⟨v, obj_setCell (i := 1) h1 _, h2.bytes_kept hk fun _ hb => Nat.ne_of_lt hb⟩, hk⟩
/-- another block, a later one, is written. -/
theorem RdB.other {w : World} {R : Nat} {bad : Bool} {l : List UInt8} (h : RdB w R bad l) {p : Addr} (hp : R < p.block) (v : Value) : RdB (w.setCell p v) R bad l := by
  obtain ⟨u, h1, h2⟩ := h
  have hk : Keeps (fun b => b ≤ R) w (w.setCell p v) := (Keeps.refl _ _).setCell (.inl (by omega)) _
  exact ⟨u, hk.obj (Nat.le_refl _) h1, h2.bytes_kept hk fun _ hb => Nat.le_of_lt hb⟩
theorem RdB.others {w : World} {R : Nat} {bad : Bool} {l : List UInt8} (h : RdB w R bad l) {T : Nat} (hp : R < T) (x y z : Value) : RdB (((w.setCell ⟨T, 0, none⟩ x).setCell ⟨T, 1, none⟩ y).setCell ⟨T, 2, none⟩ z) R bad l := ((h.other hp x).other hp y).other hp z
theorem keeps_others {S : Nat → Prop} {w w1 : World} {T : Nat} (hk : Keeps S w w1) (hT : w.heap.size ≤ T) (x y z : Value) : Keeps S w (((w1.setCell ⟨T, 0, none⟩ x).setCell ⟨T, 1, none⟩ y).setCell ⟨T, 2, none⟩ z) := ((hk.setCell (.inr hT) x).setCell (.inr hT) y).setCell (.inr hT) z
/-- what 'take' comes to, where there is enough. -/
def TookTo (w : World) (R n : Nat) (l : List UInt8) (e : Ending) (w' : World) : Prop :=
  ∃ v, e = .returned v ∧ BytesIn (fun b => b < R) w' v (l.take n) ∧ RdB w' R false (l.drop n) ∧ Keeps (fun b => b ≠ R) w w'
def FailTo (w : World) (R : Nat) (r : Value) (l : List UInt8) (e : Ending) (w' : World) : Prop := e = .returned r ∧ RdB w' R true l ∧ Keeps (fun b => b ≠ R) w w'

set_option maxHeartbeats 1000000 in
theorem take_no (R : Nat) (bad : Bool) (n : Int) (l : List UInt8) (w : World) (h : RdB w R bad l) (hn : bad = true ∨ n < 0 ∨ (l.length : Int) < n) :
    Calls Tryz.prog 79 #[.pointer (some ⟨R, 0, none⟩), .int .i64 n] w (FailTo w R (.slice none 0 0) l) := by
  have HF := hid h.fail
  obtain ⟨v, ho, a, c, rfl, -⟩ := h
  have r0 := cell_obj (i := 0) ho rfl
  have r1 := cell_obj (i := 1) ho rfl
  have z1 := free_obj (i := 1) ho
  clear ho
  cases bad with
  | true =>
    go_enter Tryz.func79, Tryz.ntmps79
    go_wp2_with fail
    go_ret
    exact ⟨rfl, HF.out.1, HF.out.2⟩
  | false =>
    by_cases h0 : n < 0
    ·
      go_enter Tryz.func79, Tryz.ntmps79
      go_wp2_with fail
      go_ret
      exact ⟨rfl, HF.out.1, HF.out.2⟩
    · have h1 : (l.length : Int) < n := by
        rcases hn with hn | hn | hn
        · cases hn
        · exact absurd hn h0
        · exact hn
      go_enter Tryz.func79, Tryz.ntmps79
      go_wp2_with fail
      go_ret
      exact ⟨rfl, HF.out.1, HF.out.2⟩

set_option maxHeartbeats 1000000 in
theorem take_yes (R : Nat) (n : Nat) (l : List UInt8) (w : World) (h : RdB w R false l) (hn : n ≤ l.length) :
    Calls Tryz.prog 79 #[.pointer (some ⟨R, 0, none⟩), .int .i64 n] w (TookTo w R n l) := by
  obtain ⟨v, ho, hb⟩ := h
  have HB := hid hb
  have HO := hid ho
  obtain ⟨a, c, rfl, hlc, hcm, hnc, -⟩ := hb
  unfold maxLen at hcm
  have r0 := cell_obj (i := 0) ho rfl
  have r1 := cell_obj (i := 1) ho rfl
  have z0 := free_obj (i := 0) ho
  have hn0 : (0 : Int) ≤ n := by omega
  clear ho
  have HK : ∀ x, Hid (Keeps (fun b => b ≠ R) w (w.setCell ⟨R, 0, none⟩ x)) := fun x => hid ((Keeps.refl _ _).setCell (.inl (by simp)) _)
  have fin : ∀ x y, BytesIn (fun b => b < R) w x (l.take n) → BytesIn (fun b => b < R) w y (l.drop n) → TookTo w R n l (.returned x) (w.setCell ⟨R, 0, none⟩ y) := fun x y hx hy =>
    ⟨x, rfl, hx.bytes_kept (HK y).out fun _ hb => Nat.ne_of_lt hb, ⟨y, obj_setCell (i := 0) HO.out y, hy.bytes_kept (HK y).out fun _ hb => Nat.ne_of_lt hb⟩, (HK y).out⟩
  have FIN := hid fin
  clear fin
  by_cases h0 : l = []
  · have HL0 := hid h0
    obtain rfl : n = 0 := by rw [h0] at hn; simpa using hn
    have hl0 : l.length = 0 := by rw [h0]; rfl
    clear h0
    have HE : ∀ a' c', c' ≤ c → (a' = none → c' = 0) → Hid (BytesIn (fun b => b < R) w (.slice a' 0 c') []) := fun a' c' h1 h2 => hid (bytes_empty _ _ _ _ (by unfold maxLen; omega) h2)
    cases a with
    | none =>
      obtain rfl : c = 0 := hnc rfl
      go_enter Tryz.func79, Tryz.ntmps79
      go_wp2_with fail
      go_ret
      exact FIN.out _ _ (by rw [HL0.out]; exact (HE none 0 (by omega) (fun _ => rfl)).out) (by rw [HL0.out]; exact (HE none 0 (by omega) (fun _ => rfl)).out)
    | some ad =>
      have hx : ad.add 0 = ad := by unfold Addr.add; simp
      by_cases hc : 0 < c
      ·
        go_enter Tryz.func79, Tryz.ntmps79
        go_wp2_with fail
        go_ret
        exact FIN.out _ _ (by rw [HL0.out]; exact (HE _ _ (Nat.le_refl _) (fun h => by cases h)).out) (by rw [HL0.out]; exact (HE _ _ (by omega) (fun h => by cases h)).out)
      · obtain rfl : c = 0 := by omega
        go_enter Tryz.func79, Tryz.ntmps79
        go_wp2_with fail
        go_ret
        exact FIN.out _ _ (by rw [HL0.out]; exact (HE _ _ (Nat.le_refl _) (fun h => by cases h)).out) (by rw [HL0.out]; exact (HE _ _ (by omega) (fun h => by cases h)).out)
  · have hpos : 0 < l.length := List.length_pos_iff.2 h0
    obtain ⟨a9, c9, e1, -, -, -, hel⟩ := HB.out
    simp only [Value.slice.injEq] at e1
    obtain ⟨rfl, -, rfl⟩ := e1
    obtain ⟨b, o, rfl, -, -⟩ := hel 0 hpos
    have HT : Hid (BytesIn (fun b => b < R) w (.slice (some ⟨b, o, none⟩) n c) (l.take n)) := hid (by
      have h1 := HB.out
      rw [← List.take_append_drop n l] at h1
      have h2 := bytes_prefix h1
      rw [List.length_take, Nat.min_eq_left hn] at h2
      exact h2)
    clear hel h0
    by_cases hc : n < c
    · have HD := hid (bytes_from HB.out hc hn)
      go_enter Tryz.func79, Tryz.ntmps79
      go_wp2_with fail
      go_ret
      exact FIN.out _ _ HT.out HD.out
    · obtain rfl : n = c := by omega
      have HD : Hid (BytesIn (fun b => b < R) w (.slice (some ⟨b, o, none⟩) 0 0) (l.drop n)) := hid (by
        rw [List.drop_of_length_le hlc]
        exact bytes_empty _ _ _ _ (by omega) (fun h => by cases h))
      go_enter Tryz.func79, Tryz.ntmps79
      go_wp2_with fail
      go_ret
      exact FIN.out _ _ HT.out HD.out
end Go.Proofs.YtgcnchmnciihnaaGreatDoor
