/-
  PROVED HERE: the contract of wire.Reader.Rows.
-/
import Derived.Test.YthfgjmdmcoogpaaDoorReaderValue
import Derived.Test.YthfgjmdmcoogpaaDoorRdNew
namespace Go.Proofs.YthfgjmdmcoogpaaDoor
set_option linter.unusedSimpArgs false
set_option linter.unusedVariables false
open Go.RowKit

theorem dFill_len {k : Int} {l r : List UInt8} {v : Val} (h : dFill k l = some (v, r)) : r.length ≤ l.length := by
  unfold dFill at h
  split at h
  · obtain ⟨⟨n, r'⟩, h1, h2⟩ := Option.map_eq_some_iff.1 h
    simp only [Prod.mk.injEq] at h2
    have := dInt_len h1
    rw [← h2.2]; omega
  · split at h
    · obtain ⟨⟨n, r'⟩, h1, h2⟩ := Option.map_eq_some_iff.1 h
      simp only [Prod.mk.injEq] at h2
      have := dText_len h1
      rw [← h2.2]; omega
    · simp only [Option.some.injEq, Prod.mk.injEq] at h
      rw [h.2]; exact Nat.le_refl _
theorem dVal_len (l : List UInt8) (x : Val) (r : List UInt8) (h : dVal l = some (x, r)) : r.length < l.length := by
  cases l with
  | nil => cases h
  | cons c l =>
    simp only [dVal] at h
    cases hf : dFill c.toNat l with
    | none => rw [hf] at h; cases h
    | some p =>
      obtain ⟨v, r'⟩ := p
      rw [hf] at h
      simp only at h
      split at h
      · simp only [Option.some.injEq, Prod.mk.injEq] at h
        have := dFill_len hf
        rw [← h.2, List.length_cons]; omega
      · cases h
/-- a row. -/
def dRow (l : List UInt8) : Option (Row × List UInt8) :=
  match dInt l with
  | none => none
  | some (t, r) => match dInt r with
    | none => none
    | some (k, r1) => if k < 0 then none else match dMany dVal k.toNat r1 with
      | none => none
      | some (ys, r2) => if validR ⟨t, ys⟩ then some (⟨t, ys⟩, r2) else none
def dRows (l : List UInt8) : Option (List Row × List UInt8) :=
  match dInt l with
  | none => none
  | some (n, r) => if n < 0 then none else dMany dRow n.toNat r
theorem dRow_len (l : List UInt8) (x : Row) (r : List UInt8) (h : dRow l = some (x, r)) : r.length < l.length := by
  unfold dRow at h
  cases h1 : dInt l with
  | none => rw [h1] at h; cases h
  | some p =>
    obtain ⟨t, r0⟩ := p
    rw [h1] at h
    simp only at h
    cases h2 : dInt r0 with
    | none => rw [h2] at h; cases h
    | some p =>
      obtain ⟨k, r1⟩ := p
      rw [h2] at h
      simp only at h
      split at h
      · cases h
      · cases h3 : dMany dVal k.toNat r1 with
        | none => rw [h3] at h; cases h
        | some p =>
          obtain ⟨ys, r2⟩ := p
          rw [h3] at h
          simp only at h
          split at h
          · simp only [Option.some.injEq, Prod.mk.injEq] at h
            have a1 := dInt_len h1
            have a2 := dInt_len h2
            have a3 := (dMany_len dVal_len _ _ _ _ h3).1
            rw [← h.2]; omega
          · cases h
theorem dRow_none1 {l : List UInt8} (h : dInt l = none) : dRow l = none := by unfold dRow; rw [h]
theorem dRow_none2 {l r : List UInt8} {t : Int} (h : dInt l = some (t, r)) (h2 : dInt r = none) : dRow l = none := by unfold dRow; rw [h]; simp only; rw [h2]
theorem dRow_none3 {l r r1 rest : List UInt8} {t k : Int} {j : Nat} {ys : List Val} (h : dInt l = some (t, r)) (h2 : dInt r = some (k, r1)) (h3 : dMany dVal j r1 = some (ys, rest)) (h4 : dVal rest = none) (hj : 0 ≤ k → (j : Int) < k) : dRow l = none := by
  unfold dRow
  rw [h]; simp only; rw [h2]; simp only
  split
  · rfl
  · rename_i hk
    have := hj (by omega)
    rw [dMany_stop h3 h4 (m := k.toNat) (by omega)]
theorem dRow_some {l r r1 rest : List UInt8} {t : Int} {j : Nat} {ys : List Val} (h : dInt l = some (t, r)) (h2 : dInt r = some ((j : Int), r1)) (h3 : dMany dVal j r1 = some (ys, rest)) : dRow l = if validR ⟨t, ys⟩ then some (⟨t, ys⟩, rest) else none := by
  unfold dRow
  rw [h]; simp only; rw [h2]; simp only
  rw [if_neg (by omega)]
  simp only [Int.toNat_natCast]
  rw [h3]
theorem dRows_none {l r rest : List UInt8} {n : Int} {m : Nat} {xs : List Row} (h : dInt l = some (n, r)) (h3 : dMany dRow m r = some (xs, rest)) (h4 : dRow rest = none) (hm : 0 ≤ n → (m : Int) < n) : dRows l = none := by
  unfold dRows
  rw [h]; simp only
  split
  · rfl
  · rename_i hk
    have := hm (by omega)
    exact dMany_stop h3 h4 (by omega)
theorem dRows_some {l r rest : List UInt8} {m : Nat} {xs : List Row} (h : dInt l = some ((m : Int), r)) (h3 : dMany dRow m r = some (xs, rest)) : dRows l = some (xs, rest) := by
  unfold dRows
  rw [h]; simp only
  rw [if_neg (by omega)]
  simpa using h3

/-- what Rows comes to. -/
def RowsTo (w : World) (R : Nat) (l : List UInt8) (e : Ending) (w' : World) : Prop :=
  Keeps (fun b => b ≠ R) w w' ∧ match dRows l with
    | some (xs, r) => ∃ v, e = .returned v ∧ RowsOwnF w.heap.size w' v xs ∧ RdB w' R false r
    | none => ∃ v r, e = .returned v ∧ RdB w' R true r
theorem rowsTo_no {w w' : World} {R : Nat} {l r : List UInt8} {v : Value} {e : Ending} (h : dRows l = none) (he : e = .returned v) (hr : RdB w' R true r) (hk : Keeps (fun b => b ≠ R) w w') : RowsTo w R l e w' := by
  unfold RowsTo
  rw [h]
  exact ⟨hk, v, r, he, hr⟩
theorem rowsTo_yes {w w' : World} {R : Nat} {l r : List UInt8} {v : Value} {xs : List Row} {e : Ending} (h : dRows l = some (xs, r)) (he : e = .returned v) (ho : RowsOwnF w.heap.size w' v xs) (hr : RdB w' R false r) (hk : Keeps (fun b => b ≠ R) w w') : RowsTo w R l e w' := by
  unfold RowsTo
  rw [h]
  exact ⟨hk, v, he, ho, hr⟩
/-- a counter that goes down, round and round. -/
theorem count_less {c : Int} (h1 : -9223372036854775808 ≤ c) (h2 : c ≤ 9223372036854775807) (h0 : ¬ c = 0) : (wrap64 (c - 1) % 18446744073709551616).toNat < (c % 18446744073709551616).toNat := by
  unfold wrap64
  omega
theorem count_next {n c : Int} {m : Nat} (h : c = wrap64 (n - m)) : wrap64 (c - 1) = wrap64 (n - (m + 1 : Nat)) := by
  rw [h]; unfold wrap64; omega
theorem count_end {n : Int} {m : Nat} (h1 : -9223372036854775808 ≤ n) (h2 : n ≤ 9223372036854775807) (hm : m ≤ 1099511627776) (h : 0 = wrap64 (n - m)) : n = m := by
  unfold wrap64 at h; omega
theorem count_on {n c : Int} {m : Nat} (h : c = wrap64 (n - m)) (h0 : ¬ c = 0) : n ≠ m := by
  rintro rfl
  apply h0
  rw [h]; unfold wrap64; omega
theorem count_in {n c : Int} {m : Nat} (h : c = wrap64 (n - m)) : -9223372036854775808 ≤ c ∧ c ≤ 9223372036854775807 := by
  rw [h]; unfold wrap64; omega
theorem rowsF_nil (B : Nat) (w : World) : RowsOwnF B w (.slice none 0 0) [] := ⟨[], rfl, ⟨rfl, .inl ⟨rfl, rfl⟩⟩, fun i hi => by cases hi⟩

section
variable {P : Program} {md : Region.Mode} {ops : Array Oper} {Q : Exit → Act → World → Prop}
/-- one operation alone is ready. -/
theorem wpAny_next {i : Nat} {o : Oper} {rest : List Oper} {fuel : Nat} {listed : Array Bool} {a : Act} {w : World} (hr : Region.ready md ops listed = [i]) (ho : ops[i]? = some o)
    (hk : ∀ a w, wpList P ops Q rest a w → wpAny P md ops Q fuel (listed.setIfInBounds i true) a w) (h : wpList P ops Q (o :: rest) a w) : wpAny P md ops Q (fuel + 1) listed a w := by
  refine wpAny_all hr (by simp) fun j hj => ?_
  obtain rfl : j = i := by simpa using hj
  refine wpOp_mono hk ?_
  unfold wpOp
  rw [ho]
  exact h
end
theorem infoVl : ElemInfo Tryd.prog 40 3 32 := ElemInfo.of infoVal rfl (by decide)
theorem own_keep {S : Nat → Prop} {w w' : World} {B s n : Nat} {e : TypeId} {v : Value} {xs : List Value} (h : w.ownsRow B e s v n xs) (k : Keeps S w w') (hs : ∀ b, B ≤ b → b < w.heap.size → S b) : w'.ownsRow B e s v n xs := by
  refine ⟨h.1, h.2.imp id fun ⟨g, cap, cur, h1, h2, h3, h4⟩ => ⟨g, cap, cur, h1, h2, ?_, h4⟩⟩
  exact k.obj (hs g h2 (Array.getElem?_eq_some_iff.1 h3).1) h3
theorem RowsOwnF.keep {S : Nat → Prop} {B : Nat} {w w' : World} {sv : Value} {rs : List Row} (h : RowsOwnF B w sv rs) (k : Keeps S w w') (hs : ∀ b, B ≤ b → b < w.heap.size → S b) : RowsOwnF B w' sv rs := by
  obtain ⟨vs, hl, ho, hv⟩ := h
  refine ⟨vs, hl, own_keep ho k hs, fun i hi => ?_⟩
  exact ((hv i hi).o_lt.o_swap (k.mono fun b hb hx => hs b hx.1.1 hx.2) fun b hb _ => hb.1)
theorem RdB.keep {S : Nat → Prop} {w w' : World} {R : Nat} {bad : Bool} {l : List UInt8} (h : RdB w R bad l) (k : Keeps S w w') (hs : ∀ b, b ≤ R → S b) : RdB w' R bad l := by
  obtain ⟨v, h1, h2⟩ := h
  exact ⟨v, k.obj (hs _ (Nat.le_refl _)) h1, h2.bytes_kept k fun b hb => hs b (Nat.le_of_lt hb)⟩
theorem Keeps.low {S : Nat → Prop} {a b c : World} (h : Keeps S a b) (k : Keeps (fun x => x < a.heap.size) b c) : Keeps S a c :=
  ((h.mono (S' := fun x => S x ∧ x < a.heap.size) fun _ _ hx => hx.1).trans (k.mono fun _ _ hx => hx.2)).mono fun _ hx hs => ⟨hs, hx⟩
theorem valCells_snoc (ys : List Val) (x : Val) : valCells (ys ++ [x]) = valCells ys ++ x.cells := by simp [valCells]
theorem val_one (x : Val) : ∀ u ∈ [Value.int .i64 x.k, .int .i64 x.n, .string x.t], u.oneCell' = true := by
  intro u hu
  simp only [List.mem_cons, List.not_mem_nil, or_false] at hu
  rcases hu with rfl | rfl | rfl <;> rfl
/-- what Int comes to, whatever the reader. -/
def IntAny (w : World) (R : Nat) (bad : Bool) (l : List UInt8) (e : Ending) (w' : World) : Prop :=
  ∃ t bad' r, e = .returned (.int .i64 t) ∧ RdB w' R bad' r ∧ Keeps (fun b => b ≠ R) w w' ∧ (bad' = false → bad = false ∧ dInt l = some (t, r)) ∧ (bad' = true → t = 0 ∧ (bad = true ∨ dInt l = none)) ∧ -9223372036854775808 ≤ t ∧ t ≤ 9223372036854775807
theorem read_int_any (R : Nat) (bad : Bool) (l : List UInt8) (w : World) (h : RdB w R bad l) : Calls Tryd.prog 84 #[.pointer (some ⟨R, 0, none⟩)] w (IntAny w R bad l) := by
  cases bad with
  | true =>
    refine (read_int_bad R l w h).mono ?_
    rintro e w1 ⟨rfl, hr, hk⟩
    exact ⟨0, true, l, rfl, hr, hk, fun h => (by cases h), fun _ => ⟨rfl, .inl rfl⟩, by decide, by decide⟩
  | false =>
    refine (read_int R l w h).mono ?_
    rintro e w1 ⟨hk, hT⟩
    cases hd : dInt l with
    | none =>
      rw [hd] at hT
      obtain ⟨rfl, r, hr⟩ := hT
      exact ⟨0, true, r, rfl, hr, hk, fun h => (by cases h), fun _ => ⟨rfl, .inr hd⟩, by decide, by decide⟩
    | some p =>
      obtain ⟨n, r⟩ := p
      rw [hd] at hT
      obtain ⟨rfl, hr⟩ := hT
      exact ⟨n, false, r, rfl, hr, hk, fun _ => ⟨rfl, hd⟩, fun h => (by cases h), (dInt_sound hd).2⟩
def ValAny (w : World) (R : Nat) (l : List UInt8) (e : Ending) (w' : World) : Prop :=
  ∃ (x : Val) (bad : Bool) (r : List UInt8), e = .returned x.v ∧ RdB w' R bad r ∧ Keeps (fun b => b ≠ R) w w' ∧ (bad = false → dVal l = some (x, r)) ∧ (bad = true → dVal l = none)
theorem read_value_any (R : Nat) (l : List UInt8) (w : World) (h : RdB w R false l) : Calls Tryd.prog 108 #[.pointer (some ⟨R, 0, none⟩)] w (ValAny w R l) := by
  refine (read_value R l w h).mono ?_
  rintro e w1 ⟨hk, hT⟩
  cases hd : dVal l with
  | none =>
    rw [hd] at hT
    obtain ⟨rfl, r, hr⟩ := hT
    exact ⟨zeroV, true, r, rfl, hr, hk, fun h => (by cases h), fun _ => hd⟩
  | some p =>
    obtain ⟨x, r⟩ := p
    rw [hd] at hT
    obtain ⟨rfl, hr⟩ := hT
    exact ⟨x, false, r, rfl, hr, hk, fun _ => hd, fun h => by cases h⟩

set_option maxRecDepth 100000 in
set_option maxHeartbeats 4000000 in
theorem read_rows (R : Nat) (l : List UInt8) (w : World) (h : RdB w R false l) (hl : l.length ≤ 1099511627776) : Calls Tryd.prog 74 #[.pointer (some ⟨R, 0, none⟩)] w (RowsTo w R l) := by
  have HT := hid h.lt
  have HR := hid h
  have HLL := hid hl
  clear h hl
  go_enter Tryd.func74, Tryd.ntmps74
  go_wp2_with fail
  refine (read_int R l _ HR.out).mono ?_
  rintro e w1 ⟨hk, hT⟩
  have HK := hid hk
  clear hk
  cases hd : dInt l with
  | none =>
    rw [hd] at hT
    obtain ⟨rfl, r, hr⟩ := hT
    have HQ1 := hid hr
    have HD : Hid (dRows l = none) := hid (by unfold dRows; rw [hd])
    clear hr hd
    go_wp2_with fail
    obtain ⟨R1, hR1⟩ : ∃ RR_ : (Nat → Value) → World → Prop, RR_ = (fun us wx => us 2 = .slice none 0 0 ∧ us 3 = .int .i64 0 ∧ wx = w1) := ⟨_, rfl⟩
    obtain ⟨mu1, hmu1⟩ : ∃ mu : (Nat → Value) → World → Nat, mu = (fun _ _ => 0) := ⟨_, rfl⟩
    have HR1 := hid hR1; have Hmu1 := hid hmu1; clear hR1 hmu1
    refine wp_loop_frame' [false, false, true, true, true, true, false, false, true, true, true, true, true, true, true, true, true, true, true, true, true, true, true, true, true, true, true, true, true, true, true, true, true, true, true, true, true, true, true, true, true, true, true, true, true, true, true, true, true, true, true, true, true, true, true, true, true, true] R1 _ mu1 HR1.out ?_ ?_
    · exact ⟨rfl, rfl, rfl⟩
    intro us1 wx hrel
    obtain ⟨h2, h3, rfl⟩ := hrel
    simp only [frameOf, Nat.reduceAdd, h2, h3]
    have Hh2 := hid h2; clear h2
    have Hh3 := hid h3; clear h3
    go_wp2_with fail
    go_ret
    exact rowsTo_no HD.out rfl HQ1.out HK.out
  | some p =>
    obtain ⟨n, r0⟩ := p
    rw [hd] at hT
    obtain ⟨rfl, hr⟩ := hT
    have HQ1 := hid hr
    have HD := hid hd
    have HN := hid (dInt_sound hd).2
    have HL0 : Hid (r0.length ≤ 1099511627776) := hid (by have := dInt_len hd; have := HLL.out; omega)
    clear hr hd
    go_wp2_with fail
    obtain ⟨R1, hR1⟩ : ∃ RR_ : (Nat → Value) → World → Prop, RR_ = (fun us wx => ∃ (c : Int) (xs : List Row) (rest : List UInt8) (bad : Bool) (a : Option Addr) (cp : Nat), us 3 = .int .i64 c ∧ us 2 = .slice a xs.length cp ∧ c = wrap64 (n - xs.length) ∧ RowsOwnF w.heap.size wx (.slice a xs.length cp) xs ∧ RdB wx R bad rest ∧ Keeps (fun b => b ≠ R) w wx ∧ (bad = false → dMany dRow xs.length r0 = some (xs, rest) ∧ (0 ≤ n → xs.length ≤ n)) ∧ (bad = true → dRows l = none)) := ⟨_, rfl⟩
    obtain ⟨mu1, hmu1⟩ : ∃ mu : (Nat → Value) → World → Nat, mu = (fun us _ => ((intOf (us 3)) % 18446744073709551616).toNat) := ⟨_, rfl⟩
    have HR1 := hid hR1; have Hmu1 := hid hmu1; clear hR1 hmu1
    refine wp_loop_frame' [false, false, true, true, true, true, false, false, true, true, true, true, true, true, true, true, true, true, true, true, true, true, true, true, true, true, true, true, true, true, true, true, true, true, true, true, true, true, true, true, true, true, true, true, true, true, true, true, true, true, true, true, true, true, true, true, true, true] R1 _ mu1 HR1.out ?_ ?_
    · exact ⟨n, [], r0, false, none, 0, rfl, rfl, by have := HN.out; unfold wrap64; simp only [List.length_nil]; omega, rowsF_nil _ _, HQ1.out, HK.out, fun _ => ⟨rfl, fun h => by simpa using h⟩, fun h => by cases h⟩
    intro us1 wx hrel
    obtain ⟨c, xs, rest, bad, a, cp, h3, h2, hc, ho, hr, hk, hgood, hbad⟩ := hrel
    simp only [frameOf, Nat.reduceAdd, h3, h2]
    have Hh3 := hid h3; clear h3
    have Hh2 := hid h2; clear h2
    have HC := hid hc
    have HO := hid ho
    have HRX := hid hr
    have HKX := hid hk
    have HG := hid hgood
    have HB := hid hbad
    clear hc ho hr hk hgood hbad HQ1
    obtain ⟨vb, hob, -⟩ := HRX.out
    have x1 := cell_obj (i := 1) hob (v := .bool bad) rfl
    clear hob
    by_cases hc0 : c = 0
    · subst hc0
      go_wp2_with fail
      go_ret
      cases bad with
      | true => exact rowsTo_no (by simpa using HB.out) rfl HRX.out HKX.out
      | false =>
        obtain ⟨g1, g2⟩ : dMany dRow xs.length r0 = some (xs, rest) ∧ (0 ≤ n → xs.length ≤ n) := by simpa using HG.out
        have hlen := (dMany_len dRow_len _ _ _ _ g1).1
        have := HL0.out
        have hn := count_end HN.out.1 HN.out.2 (by omega) HC.out
        have hd := HD.out
        rw [hn] at hd
        exact rowsTo_yes (dRows_some hd g1) rfl HO.out HRX.out HKX.out
    cases bad with
    | true =>
      go_wp2_with fail
      go_ret
      exact rowsTo_no (by simpa using HB.out) rfl HRX.out HKX.out
    | false =>
      obtain ⟨g1, g2⟩ : dMany dRow xs.length r0 = some (xs, rest) ∧ (0 ≤ n → xs.length ≤ n) := by simpa using HG.out
      have G1 := hid g1
      have G2 : Hid (0 ≤ n → (xs.length : Int) < n) := hid fun h => by have := g2 h; have := count_on HC.out hc0; omega
      have HXL : Hid (rest.length + xs.length ≤ 1099511627776) := hid (by have := (dMany_len dRow_len _ _ _ _ g1).1; have := HL0.out; omega)
      clear g1 g2 HG HB
      go_wp2_with fail
      clear x1
      refine (read_int_any R false rest _ HRX.out).mono ?_
      rintro e w2 ⟨t, bd2, ra, rfl, hr2, hk2, ht1, ht2, ht3⟩
      have HO2 := hid (HO.out.keep hk2 fun b hb _ => Nat.ne_of_gt (Nat.lt_of_lt_of_le HT.out hb))
      have HK2 := hid (HKX.out.trans hk2)
      have HR2 := hid hr2
      have HSV : Hid (∀ k, (Value.slice a xs.length cp).ownBlock = some k → k < w2.heap.size) := hid fun k hk => by
        obtain ⟨vs, hl, hor, hvs⟩ := HO2.out
        exact (hor.lt k hk).2
      have hR2 := hr2.lt
      clear hk2 hr2 HKX HO HRX
      go_upto_region 5 with (fail)
      have hL3 := Later.alloc w2 (.cells #[.int .i64 t, .slice none 0 0] 37 (0, 0))
      have HX3 := hid (obj_new w2 (.cells #[.int .i64 t, .slice none 0 0] 37 (0, 0)))
      have HR3 := hid (HR2.out.later hL3)
      have HXR : Hid (R < w2.heap.size) := hid hR2
      have HL3 := hid hL3
      generalize w2.alloc (.cells #[.int .i64 t, .slice none 0 0] 37 (0, 0)) = w3 at *
      clear hL3 hR2
      go_wp2_with fail
      refine (read_int_any R bd2 ra _ HR3.out).mono ?_
      rintro e w4 ⟨k, bd3, rb, rfl, hr4, hk4, ht4, ht5, ht6⟩
      have HX4 := hid (hk4.obj (Nat.ne_of_gt HXR.out) HX3.out)
      have HR4 := hid hr4
      have HK24 := hid ((HL3.out.keeps (fun b => b ≠ R)).trans hk4)
      have HKB := hid ht6
      have HGOOD : Hid (bd3 = false → dInt rest = some (t, ra) ∧ dInt ra = some (k, rb)) := hid fun h => by
        obtain ⟨e1, e2⟩ := ht4 h
        exact ⟨(ht1 e1).2, e2⟩
      have HBAD : Hid (bd3 = true → dRow rest = none) := hid fun h => by
        obtain ⟨_, e1 | e1⟩ := ht5 h
        · obtain ⟨_, e2 | e2⟩ := ht2 e1
          · cases e2
          · exact dRow_none1 e2
        · cases hb : bd2 with
          | true =>
            obtain ⟨_, e2 | e2⟩ := ht2 hb
            · cases e2
            · exact dRow_none1 e2
          | false => exact dRow_none2 (ht1 hb).2 e1
      have HXB : Hid (w2.heap.size < w4.heap.size) := hid (Array.getElem?_eq_some_iff.1 HX4.out).1
      have HRB : Hid (R < w4.heap.size) := hid hr4.lt
      clear hr4 hk4 ht1 ht2 ht3 ht4 ht5 ht6
      go_wp2_with fail
      obtain ⟨R2, hR2⟩ : ∃ RR_ : (Nat → Value) → World → Prop, RR_ = (fun us wy => ∃ (d : Int) (ys : List Val) (rs : List UInt8) (bd : Bool) (va : Option Addr) (vc : Nat), us 5 = .int .i64 d ∧ d = wrap64 (k - ys.length) ∧ wy.heap[w2.heap.size]? = some (.cells #[.int .i64 t, .slice va ys.length vc] 37 (0, 0)) ∧ wy.ownsRow w4.heap.size 40 3 (.slice va ys.length vc) ys.length (valCells ys) ∧ RdB wy R bd rs ∧ Keeps (fun b => b ≠ R ∧ b ≠ w2.heap.size) w4 wy ∧ (bd = false → bd3 = false ∧ dMany dVal ys.length rb = some (ys, rs) ∧ (0 ≤ k → ys.length ≤ k)) ∧ (bd = true → dRow rest = none)) := ⟨_, rfl⟩
      obtain ⟨mu2, hmu2⟩ : ∃ mu : (Nat → Value) → World → Nat, mu = (fun us _ => ((intOf (us 5)) % 18446744073709551616).toNat) := ⟨_, rfl⟩
      have HR2 := hid hR2; have Hmu2 := hid hmu2; clear hR2 hmu2
      refine wp_loop_frame' [false, false, false, false, false, true, false, false, false, false, false, false, false, false, false, false, false, false, false, false, false, false, false, false, true, true, true, true, true, true, true, true, true, true, true, true, true, true, true, true, true, true] R2 _ mu2 HR2.out ?_ ?_
      · exact ⟨k, [], rb, bd3, none, 0, rfl, by have := HKB.out; unfold wrap64; simp only [List.length_nil]; omega, HX4.out, ⟨rfl, .inl ⟨rfl, rfl⟩⟩, HR4.out, Keeps.refl _ _, fun h => ⟨h, rfl, fun h => by simpa using h⟩, HBAD.out⟩
      intro us2 wy hrel
      obtain ⟨d, ys, rs, bd, va, vc, h5, hdc, hx, hown, hr, hk, hgood, hbad⟩ := hrel
      simp only [frameOf, Nat.reduceAdd, h5]
      have Hh5 := hid h5; clear h5
      have HDC := hid hdc
      have HX := hid hx
      have HOW := hid hown
      have HRY := hid hr
      have HKY := hid hk
      have HG := hid hgood
      have HB := hid hbad
      clear hdc hx hown hr hk hgood hbad
      obtain ⟨vb, hob, -⟩ := HRY.out
      have x1 := cell_obj (i := 1) hob (v := .bool bd) rfl
      have y1 := free_obj (i := 1) hob
      clear hob
      have HKWY : Hid (Keeps (fun b => b ≠ R) w2 wy) := hid (((HK24.out.mono (S' := fun b => b ≠ R ∧ b < w2.heap.size) fun _ _ h => h.1).trans (HKY.out.mono fun _ _ h => ⟨h.1, Nat.ne_of_lt h.2⟩)).mono fun _ hk h => ⟨h, hk⟩)
      cases bd with
      | true =>
        have hrn : dRow rest = none := by simpa using HB.out
        have HRN := hid hrn
        clear hrn
        by_cases hd0 : d = 0
        all_goals
          go_upto_region 10 with (fail)
          have hput := (HRY.out.put true)
          have HRZ := hid hput.1
          have HXZ := hid (hput.2.obj (Nat.ne_of_gt HXR.out) HX.out)
          have HOWZ := hid (own_keep HOW.out hput.2 fun b hb _ => Nat.ne_of_gt (Nat.lt_of_lt_of_le HRB.out hb))
          have HK2Z := hid (HKWY.out.trans hput.2)
          have HOZ := hid (HO2.out.keep HK2Z.out fun b hb _ => Nat.ne_of_gt (Nat.lt_of_lt_of_le HT.out hb))
          have HKZ := hid (HK2.out.trans HK2Z.out)
          clear hput
          generalize wy.setCell ⟨R, 1, none⟩ (.bool true) = wz at *
          have q0 := cell_obj (i := 0) HXZ.out (v := .int .i64 t) rfl
          have q1 := cell_obj (i := 1) HXZ.out (v := .slice va ys.length vc) rfl
          obtain ⟨vs, hl, hor, hvs⟩ := HOZ.out
          have HHL := hid hl
          have HOR := hid hor
          have HVS := hid hvs
          clear hor hvs
          go_wp2_with (at_builtin; go_loud (refine wpList_append_obj rfl _ _ 22 rfl 37 2 32 Tryd.underlying22 infoRw rfl (own_later HOR.out (Later.alloc _ _)) (news := [.int .i64 t, .slice va ys.length vc]) rfl (obj_at (by simp)) rfl (oneCell_row rfl) ?c1 ?c2 ?c3 ?_))
          case c1 => have := HXL.out; omega
          case c2 => have := HXL.out; unfold maxLen; omega
          case c3 => have := HKZ.out.size; (try simp only [World.size_alloc]); omega
          intro v7 w7 hA7
          have hlow := hA7.low (own_later HOR.out (Later.alloc wz (.cells #[.int .i64 t, .slice va ys.length vc] 37 (0, 0))))
          have hne := ((vals_away HOWZ.out rfl (B := w.heap.size) (by have := HK2.out.size; have := HXB.out; omega) (ob := (Value.slice a xs.length cp).ownBlock) (fun k hk => by have := HSV.out k hk; have := HXB.out; omega)).o_later (Later.alloc wz (.cells #[.int .i64 t, .slice va ys.length vc] 37 (0, 0))))
          have hR7 : RowsOwnF w.heap.size w7 v7 (xs ++ [⟨t, ys⟩]) := rows_add HHL.out (fun i hi => (HVS.out i hi).o_later (Later.alloc _ _)) hne hA7
          have hB7 := (HRZ.out.later (Later.alloc wz (.cells #[.int .i64 t, .slice va ys.length vc] 37 (0, 0)))).keep hlow fun b hb => Nat.lt_of_le_of_lt hb HT.out
          have hK7 := (HKZ.out.more (Later.alloc wz (.cells #[.int .i64 t, .slice va ys.length vc] 37 (0, 0)))).low hlow
          obtain ⟨a7, c7, rfl⟩ := ownsRow_slice hA7.own
          have HR7 := hid hR7; have HB7 := hid hB7; have HK7 := hid hK7
          clear hR7 hB7 hK7 hlow hne hA7 q0 q1
          go_wp2_with fail
          have hlen : (xs ++ [(⟨t, ys⟩ : Row)]).length = xs.length + 1 := by simp
          refine Round.mk' HR1.out Hmu1.out rfl ?_ ?_
          · exact ⟨wrap64 (c - 1), xs ++ [⟨t, ys⟩], rs, true, a7, c7, rfl, by rw [hlen]; rfl, by rw [hlen]; exact count_next HC.out, by rw [hlen]; exact HR7.out, HB7.out, HK7.out, fun h => (by cases h), fun _ => dRows_none HD.out G1.out HRN.out G2.out⟩
          · rw [Hh3.out]; exact count_less (count_in HC.out).1 (count_in HC.out).2 hc0
      | false =>
        by_cases hd0 : d = 0
        · have hG : bd3 = false ∧ dMany dVal ys.length rb = some (ys, rs) ∧ (0 ≤ k → (ys.length : Int) ≤ k) := by simpa using HG.out
          have hkn : k = ys.length := count_end HKB.out.1 HKB.out.2 (by
            have e1 := (dMany_len dVal_len _ _ _ _ hG.2.1).1
            have e2 := dInt_len (HGOOD.out hG.1).1
            have e3 := dInt_len (HGOOD.out hG.1).2
            have := HXL.out
            omega) (by rw [← hd0]; exact HDC.out)
          have HROW := hid (dRow_some (HGOOD.out hG.1).1 (by rw [← hkn]; exact (HGOOD.out hG.1).2) hG.2.1)
          clear hG hkn HG HB
          subst hd0
          have q0 := cell_obj (i := 0) HX.out (v := .int .i64 t) rfl
          have q1 := cell_obj (i := 1) HX.out (v := .slice va ys.length vc) rfl
          go_wp2_with fail
          clear q0 q1 x1 y1
          refine (valid_row t ys _ _ ((owned_valsO HOW.out).vals.vals_mono fun _ _ => trivial)).mono ?_
          rintro e wv ⟨rfl, hLv⟩
          have HRV := hid (HRY.out.later hLv)
          have HXV := hid (hLv.obj HX.out)
          have HOWV := hid (own_later HOW.out hLv)
          have HKWV := hid (HKWY.out.more hLv)
          clear hLv
          obtain ⟨vb, hob, -⟩ := HRV.out
          have x1 := cell_obj (i := 1) hob (v := .bool false) rfl
          have y1 := free_obj (i := 1) hob
          clear hob
          cases hv : validR ⟨t, ys⟩ with
          | true =>
            have HRS : Hid (dRow rest = some (⟨t, ys⟩, rs)) := hid (by rw [HROW.out, if_pos hv])
            clear hv
            go_upto_region 10 with (fail)
            have hput := (HRV.out.put false)
            have HRZ := hid hput.1
            have HXZ := hid (hput.2.obj (Nat.ne_of_gt HXR.out) HXV.out)
            have HOWZ := hid (own_keep HOWV.out hput.2 fun b hb _ => Nat.ne_of_gt (Nat.lt_of_lt_of_le HRB.out hb))
            have HK2Z := hid (HKWV.out.trans hput.2)
            have HOZ := hid (HO2.out.keep HK2Z.out fun b hb _ => Nat.ne_of_gt (Nat.lt_of_lt_of_le HT.out hb))
            have HKZ := hid (HK2.out.trans HK2Z.out)
            clear hput
            generalize wv.setCell ⟨R, 1, none⟩ (.bool false) = wz at *
            have q0 := cell_obj (i := 0) HXZ.out (v := .int .i64 t) rfl
            have q1 := cell_obj (i := 1) HXZ.out (v := .slice va ys.length vc) rfl
            obtain ⟨vs, hl, hor, hvs⟩ := HOZ.out
            have HHL := hid hl
            have HOR := hid hor
            have HVS := hid hvs
            clear hor hvs
            go_wp2_with (at_builtin; go_loud (refine wpList_append_obj rfl _ _ 22 rfl 37 2 32 Tryd.underlying22 infoRw rfl (own_later HOR.out (Later.alloc _ _)) (news := [.int .i64 t, .slice va ys.length vc]) rfl (obj_at (by simp)) rfl (oneCell_row rfl) ?c1 ?c2 ?c3 ?_))
            case c1 => have := HXL.out; omega
            case c2 => have := HXL.out; unfold maxLen; omega
            case c3 => have := HKZ.out.size; (try simp only [World.size_alloc]); omega
            intro v7 w7 hA7
            have hlow := hA7.low (own_later HOR.out (Later.alloc wz (.cells #[.int .i64 t, .slice va ys.length vc] 37 (0, 0))))
            have hne := ((vals_away HOWZ.out rfl (B := w.heap.size) (by have := HK2.out.size; have := HXB.out; omega) (ob := (Value.slice a xs.length cp).ownBlock) (fun k hk => by have := HSV.out k hk; have := HXB.out; omega)).o_later (Later.alloc wz (.cells #[.int .i64 t, .slice va ys.length vc] 37 (0, 0))))
            have hR7 : RowsOwnF w.heap.size w7 v7 (xs ++ [⟨t, ys⟩]) := rows_add HHL.out (fun i hi => (HVS.out i hi).o_later (Later.alloc _ _)) hne hA7
            have hB7 := (HRZ.out.later (Later.alloc wz (.cells #[.int .i64 t, .slice va ys.length vc] 37 (0, 0)))).keep hlow fun b hb => Nat.lt_of_le_of_lt hb HT.out
            have hK7 := (HKZ.out.more (Later.alloc wz (.cells #[.int .i64 t, .slice va ys.length vc] 37 (0, 0)))).low hlow
            obtain ⟨a7, c7, rfl⟩ := ownsRow_slice hA7.own
            have HR7 := hid hR7; have HB7 := hid hB7; have HK7 := hid hK7
            clear hR7 hB7 hK7 hlow hne hA7 q0 q1
            go_wp2_with fail
            have hlen : (xs ++ [(⟨t, ys⟩ : Row)]).length = xs.length + 1 := by simp
            refine Round.mk' HR1.out Hmu1.out rfl ?_ ?_
            · exact ⟨wrap64 (c - 1), xs ++ [⟨t, ys⟩], rs, false, a7, c7, rfl, by rw [hlen]; rfl, by rw [hlen]; exact count_next HC.out, by rw [hlen]; exact HR7.out, HB7.out, HK7.out, fun _ => ⟨by rw [hlen]; exact dMany_step G1.out HRS.out, fun h => by have := G2.out h; rw [hlen]; omega⟩, fun h => (by cases h)⟩
            · rw [Hh3.out]; exact count_less (count_in HC.out).1 (count_in HC.out).2 hc0
          | false =>
            have HRN : Hid (dRow rest = none) := hid (by rw [HROW.out, if_neg (by simp [hv])])
            clear hv
            go_upto_region 10 with (fail)
            have hput := (HRV.out.put true)
            have HRZ := hid hput.1
            have HXZ := hid (hput.2.obj (Nat.ne_of_gt HXR.out) HXV.out)
            have HOWZ := hid (own_keep HOWV.out hput.2 fun b hb _ => Nat.ne_of_gt (Nat.lt_of_lt_of_le HRB.out hb))
            have HK2Z := hid (HKWV.out.trans hput.2)
            have HOZ := hid (HO2.out.keep HK2Z.out fun b hb _ => Nat.ne_of_gt (Nat.lt_of_lt_of_le HT.out hb))
            have HKZ := hid (HK2.out.trans HK2Z.out)
            clear hput
            generalize wv.setCell ⟨R, 1, none⟩ (.bool true) = wz at *
            have q0 := cell_obj (i := 0) HXZ.out (v := .int .i64 t) rfl
            have q1 := cell_obj (i := 1) HXZ.out (v := .slice va ys.length vc) rfl
            obtain ⟨vs, hl, hor, hvs⟩ := HOZ.out
            have HHL := hid hl
            have HOR := hid hor
            have HVS := hid hvs
            clear hor hvs
            go_wp2_with (at_builtin; go_loud (refine wpList_append_obj rfl _ _ 22 rfl 37 2 32 Tryd.underlying22 infoRw rfl (own_later HOR.out (Later.alloc _ _)) (news := [.int .i64 t, .slice va ys.length vc]) rfl (obj_at (by simp)) rfl (oneCell_row rfl) ?c1 ?c2 ?c3 ?_))
            case c1 => have := HXL.out; omega
            case c2 => have := HXL.out; unfold maxLen; omega
            case c3 => have := HKZ.out.size; (try simp only [World.size_alloc]); omega
            intro v7 w7 hA7
            have hlow := hA7.low (own_later HOR.out (Later.alloc wz (.cells #[.int .i64 t, .slice va ys.length vc] 37 (0, 0))))
            have hne := ((vals_away HOWZ.out rfl (B := w.heap.size) (by have := HK2.out.size; have := HXB.out; omega) (ob := (Value.slice a xs.length cp).ownBlock) (fun k hk => by have := HSV.out k hk; have := HXB.out; omega)).o_later (Later.alloc wz (.cells #[.int .i64 t, .slice va ys.length vc] 37 (0, 0))))
            have hR7 : RowsOwnF w.heap.size w7 v7 (xs ++ [⟨t, ys⟩]) := rows_add HHL.out (fun i hi => (HVS.out i hi).o_later (Later.alloc _ _)) hne hA7
            have hB7 := (HRZ.out.later (Later.alloc wz (.cells #[.int .i64 t, .slice va ys.length vc] 37 (0, 0)))).keep hlow fun b hb => Nat.lt_of_le_of_lt hb HT.out
            have hK7 := (HKZ.out.more (Later.alloc wz (.cells #[.int .i64 t, .slice va ys.length vc] 37 (0, 0)))).low hlow
            obtain ⟨a7, c7, rfl⟩ := ownsRow_slice hA7.own
            have HR7 := hid hR7; have HB7 := hid hB7; have HK7 := hid hK7
            clear hR7 hB7 hK7 hlow hne hA7 q0 q1
            go_wp2_with fail
            have hlen : (xs ++ [(⟨t, ys⟩ : Row)]).length = xs.length + 1 := by simp
            refine Round.mk' HR1.out Hmu1.out rfl ?_ ?_
            · exact ⟨wrap64 (c - 1), xs ++ [⟨t, ys⟩], rs, true, a7, c7, rfl, by rw [hlen]; rfl, by rw [hlen]; exact count_next HC.out, by rw [hlen]; exact HR7.out, HB7.out, HK7.out, fun h => (by cases h), fun _ => dRows_none HD.out G1.out HRN.out G2.out⟩
            · rw [Hh3.out]; exact count_less (count_in HC.out).1 (count_in HC.out).2 hc0
        · have hG : bd3 = false ∧ dMany dVal ys.length rb = some (ys, rs) ∧ (0 ≤ k → (ys.length : Int) ≤ k) := by simpa using HG.out
          have HGB := hid hG.1
          have HGD := hid hG.2.1
          have HGK : Hid (0 ≤ k → (ys.length : Int) < k) := hid fun h => by have := hG.2.2 h; have := count_on HDC.out hd0; omega
          have HYL : Hid (ys.length ≤ 1099511627776) := hid (by
            have e1 := (dMany_len dVal_len _ _ _ _ hG.2.1).1
            have e2 := dInt_len (HGOOD.out hG.1).1
            have e3 := dInt_len (HGOOD.out hG.1).2
            have := HXL.out
            omega)
          clear hG HG HB
          go_wp2_with fail
          have q0 := cell_obj (i := 0) HX.out rfl
          have q1 := cell_obj (i := 1) HX.out (v := .slice va ys.length vc) rfl
          have p1 := free_obj (i := 1) HX.out
          refine wp_region_any (by kernel_rfl) ?_
          change wpAny _ _ _ _ _ _ _ (World.drew _)
          refine wpAny_take (i := 0) (v := .pointer (some ⟨w2.heap.size, 1, none⟩)) rfl (by kernel_rfl) (by kernel_rfl) (by kernel_rfl) (fun _ _ _ h => h) (Or.inl ⟨by rfl, ?_⟩) ?_
          · intro w; go_simp
          refine wpAny_take (i := 2) (v := .pointer (some ⟨R, 0, none⟩)) rfl (by kernel_rfl) (by kernel_rfl) (by kernel_rfl) (fun _ _ _ h => h) (Or.inl ⟨by rfl, ?_⟩) ?_
          · intro w; go_simp
          simp only [Act.put, List.setIfInBounds_toArray, List.set]
          refine wpAny_ready (rs := [1, 3]) (by kernel_rfl) (by simp) (AllReady.cons rfl (fun K hK => ?_) (AllReady.cons rfl (fun K hK => ?_) AllReady.nil))
          · go_simp
            refine hK _ _ ?_
            clear hK K
            refine wpAny_next (i := 3) (by kernel_rfl) rfl (fun _ _ h => wpAny_next (i := 4) (by kernel_rfl) rfl (fun _ _ h => wpAny_next (i := 5) (by kernel_rfl) rfl (fun _ _ h => wpAny_next (i := 6) (by kernel_rfl) rfl (fun _ _ h => wpAny_next (i := 7) (rest := []) (by kernel_rfl) rfl (fun _ _ h => wpAny_done (by kernel_rfl) h _) h) h) h) h) ?_
            simp only [List.getElem_toArray, List.getElem_cons_succ, List.getElem_cons_zero]
            go_wp2_with fail
            refine (read_value_any R rs _ (HRY.out.later (Later.drew _))).mono ?_
            rintro e w5 ⟨x, bd5, r5, rfl, hr5, hk5, hg5, hb5⟩
            have HR5 := hid hr5
            have HX5 := hid (hk5.obj (Nat.ne_of_gt HXR.out) ((Later.drew wy).obj HX.out))
            have HOW5 := hid (own_keep (own_later HOW.out (Later.drew wy)) hk5 fun b hb _ => Nat.ne_of_gt (Nat.lt_of_lt_of_le HRB.out hb))
            have HK5 := hid (HKY.out.trans (((Later.drew wy).keeps _).trans (hk5.mono (S' := fun b => b ≠ R ∧ b ≠ w2.heap.size) fun _ _ h => h.1)))
            have HG5 := hid hg5
            have HB5 := hid hb5
            clear hr5 hk5 hg5 hb5 q0 q1 p1
            have q1 := cell_obj (i := 1) HX5.out (v := .slice va ys.length vc) rfl
            have p1 := free_obj (i := 1) HX5.out
            go_wp2_with (at_builtin; go_loud (refine wpList_append_obj rfl _ _ 35 rfl 40 3 32 Tryd.underlying35 infoVl rfl (own_later HOW5.out (Later.alloc _ _)) (news := [.int .i64 x.k, .int .i64 x.n, .string x.t]) rfl (obj_at (by simp)) rfl (val_one x) ?c1 ?c2 ?c3 ?_))
            case c1 => have := HYL.out; omega
            case c2 => have := HYL.out; unfold maxLen; omega
            case c3 => have := HK5.out.size; simp only [World.size_alloc]; omega
            intro v7 w7 hA7
            have hown6 := own_later HOW5.out (Later.alloc w5 (.cells #[.int .i64 x.k, .int .i64 x.n, .string x.t] 40 (0, 0)))
            have hlow := hA7.low hown6
            have hX7 := hA7.obj ((Later.alloc w5 (.cells #[.int .i64 x.k, .int .i64 x.n, .string x.t] 40 (0, 0))).obj HX5.out) (fun e => by have := (hown6.lt _ e.symm).1; have := HXB.out; omega)
            have hR7 := (HR5.out.later (Later.alloc w5 (.cells #[.int .i64 x.k, .int .i64 x.n, .string x.t] 40 (0, 0)))).keep hlow fun b hb => Nat.lt_of_le_of_lt hb HRB.out
            have hK7 := (HK5.out.more (Later.alloc w5 (.cells #[.int .i64 x.k, .int .i64 x.n, .string x.t] 40 (0, 0)))).low hlow
            obtain ⟨a7, c7, rfl⟩ := ownsRow_slice hA7.own
            have HX8 := hid (obj_setCell (i := 1) hX7 (.slice a7 (ys.length + 1) c7))
            have HO8 := hid (own_set hA7.own (p := ⟨w2.heap.size, 1, none⟩) (own_ne hA7.own hX7 (by decide)) (.slice a7 (ys.length + 1) c7))
            have HR8 := hid (hR7.other (p := ⟨w2.heap.size, 1, none⟩) HXR.out (.slice a7 (ys.length + 1) c7))
            have HK8 := hid (hK7.setCell (p := ⟨w2.heap.size, 1, none⟩) (.inl (by simp)) (.slice a7 (ys.length + 1) c7))
            clear q1 p1
            have q1 := cell_obj (i := 1) hX7 (v := .slice va ys.length vc) rfl
            have p1 := free_obj (i := 1) hX7
            clear hown6 hlow hX7 hR7 hK7 hA7
            simp only [List.setIfInBounds_toArray, List.set] at HX8
            go_wp2_with fail
            have hlen : (ys ++ [x]).length = ys.length + 1 := by simp
            refine Round.mk' HR2.out Hmu2.out rfl ?_ ?_
            · exact ⟨wrap64 (d - 1), ys ++ [x], r5, bd5, a7, c7, rfl, by rw [hlen]; exact count_next HDC.out, by rw [hlen]; exact HX8.out, by rw [hlen, valCells_snoc]; exact HO8.out, HR8.out, HK8.out, fun h => ⟨HGB.out, by rw [hlen]; exact dMany_step HGD.out (HG5.out h), fun hk => by have := HGK.out hk; rw [hlen]; omega⟩, fun h => dRow_none3 (HGOOD.out HGB.out).1 (HGOOD.out HGB.out).2 HGD.out (HB5.out h) HGK.out⟩
            · rw [Hh5.out]; exact count_less (count_in HDC.out).1 (count_in HDC.out).2 hd0
          · go_simp
            refine (read_value_any R rs _ (HRY.out.later (Later.drew _))).mono ?_
            rintro e w5 ⟨x, bd5, r5, rfl, hr5, hk5, hg5, hb5⟩
            have HR5 := hid hr5
            have HX5 := hid (hk5.obj (Nat.ne_of_gt HXR.out) ((Later.drew wy).obj HX.out))
            have HOW5 := hid (own_keep (own_later HOW.out (Later.drew wy)) hk5 fun b hb _ => Nat.ne_of_gt (Nat.lt_of_lt_of_le HRB.out hb))
            have HK5 := hid (HKY.out.trans (((Later.drew wy).keeps _).trans (hk5.mono (S' := fun b => b ≠ R ∧ b ≠ w2.heap.size) fun _ _ h => h.1)))
            have HG5 := hid hg5
            have HB5 := hid hb5
            clear hr5 hk5 hg5 hb5 q0 q1 p1
            have q1 := cell_obj (i := 1) HX5.out (v := .slice va ys.length vc) rfl
            have p1 := free_obj (i := 1) HX5.out
            refine hK _ _ ?_
            clear hK K
            refine wpAny_ready (rs := [1, 4]) (by kernel_rfl) (by simp) (AllReady.cons rfl (fun K hK => ?_) (AllReady.cons rfl (fun K hK => ?_) AllReady.nil))
            · go_simp
              refine hK _ _ ?_
              clear hK K
              refine wpAny_next (i := 4) (by kernel_rfl) rfl (fun _ _ h => wpAny_next (i := 5) (by kernel_rfl) rfl (fun _ _ h => wpAny_next (i := 6) (by kernel_rfl) rfl (fun _ _ h => wpAny_next (i := 7) (rest := []) (by kernel_rfl) rfl (fun _ _ h => wpAny_done (by kernel_rfl) h _) h) h) h) ?_
              simp only [List.getElem_toArray, List.getElem_cons_succ, List.getElem_cons_zero]
              go_wp2_with (at_builtin; go_loud (refine wpList_append_obj rfl _ _ 35 rfl 40 3 32 Tryd.underlying35 infoVl rfl (own_later HOW5.out (Later.alloc _ _)) (news := [.int .i64 x.k, .int .i64 x.n, .string x.t]) rfl (obj_at (by simp)) rfl (val_one x) ?c1 ?c2 ?c3 ?_))
              case c1 => have := HYL.out; omega
              case c2 => have := HYL.out; unfold maxLen; omega
              case c3 => have := HK5.out.size; simp only [World.size_alloc]; omega
              intro v7 w7 hA7
              have hown6 := own_later HOW5.out (Later.alloc w5 (.cells #[.int .i64 x.k, .int .i64 x.n, .string x.t] 40 (0, 0)))
              have hlow := hA7.low hown6
              have hX7 := hA7.obj ((Later.alloc w5 (.cells #[.int .i64 x.k, .int .i64 x.n, .string x.t] 40 (0, 0))).obj HX5.out) (fun e => by have := (hown6.lt _ e.symm).1; have := HXB.out; omega)
              have hR7 := (HR5.out.later (Later.alloc w5 (.cells #[.int .i64 x.k, .int .i64 x.n, .string x.t] 40 (0, 0)))).keep hlow fun b hb => Nat.lt_of_le_of_lt hb HRB.out
              have hK7 := (HK5.out.more (Later.alloc w5 (.cells #[.int .i64 x.k, .int .i64 x.n, .string x.t] 40 (0, 0)))).low hlow
              obtain ⟨a7, c7, rfl⟩ := ownsRow_slice hA7.own
              have HX8 := hid (obj_setCell (i := 1) hX7 (.slice a7 (ys.length + 1) c7))
              have HO8 := hid (own_set hA7.own (p := ⟨w2.heap.size, 1, none⟩) (own_ne hA7.own hX7 (by decide)) (.slice a7 (ys.length + 1) c7))
              have HR8 := hid (hR7.other (p := ⟨w2.heap.size, 1, none⟩) HXR.out (.slice a7 (ys.length + 1) c7))
              have HK8 := hid (hK7.setCell (p := ⟨w2.heap.size, 1, none⟩) (.inl (by simp)) (.slice a7 (ys.length + 1) c7))
              clear q1 p1
              have q1 := cell_obj (i := 1) hX7 (v := .slice va ys.length vc) rfl
              have p1 := free_obj (i := 1) hX7
              clear hown6 hlow hX7 hR7 hK7 hA7
              simp only [List.setIfInBounds_toArray, List.set] at HX8
              go_wp2_with fail
              have hlen : (ys ++ [x]).length = ys.length + 1 := by simp
              refine Round.mk' HR2.out Hmu2.out rfl ?_ ?_
              · exact ⟨wrap64 (d - 1), ys ++ [x], r5, bd5, a7, c7, rfl, by rw [hlen]; exact count_next HDC.out, by rw [hlen]; exact HX8.out, by rw [hlen, valCells_snoc]; exact HO8.out, HR8.out, HK8.out, fun h => ⟨HGB.out, by rw [hlen]; exact dMany_step HGD.out (HG5.out h), fun hk => by have := HGK.out hk; rw [hlen]; omega⟩, fun h => dRow_none3 (HGOOD.out HGB.out).1 (HGOOD.out HGB.out).2 HGD.out (HB5.out h) HGK.out⟩
              · rw [Hh5.out]; exact count_less (count_in HDC.out).1 (count_in HDC.out).2 hd0
            · go_simp
              refine hK _ _ ?_
              clear hK K
              replace q1 := (Later.alloc w5 (.cells #[.int .i64 x.k, .int .i64 x.n, .string x.t] 40 (0, 0))).cell q1
              refine wpAny_next (i := 1) (by kernel_rfl) rfl (fun _ _ h => wpAny_next (i := 5) (by kernel_rfl) rfl (fun _ _ h => wpAny_next (i := 6) (by kernel_rfl) rfl (fun _ _ h => wpAny_next (i := 7) (rest := []) (by kernel_rfl) rfl (fun _ _ h => wpAny_done (by kernel_rfl) h _) h) h) h) ?_
              simp only [List.getElem_toArray, List.getElem_cons_succ, List.getElem_cons_zero]
              go_wp2_with (at_builtin; go_loud (refine wpList_append_obj rfl _ _ 35 rfl 40 3 32 Tryd.underlying35 infoVl rfl (own_later HOW5.out (Later.alloc _ _)) (news := [.int .i64 x.k, .int .i64 x.n, .string x.t]) rfl (obj_at (by simp)) rfl (val_one x) ?c1 ?c2 ?c3 ?_))
              case c1 => have := HYL.out; omega
              case c2 => have := HYL.out; unfold maxLen; omega
              case c3 => have := HK5.out.size; simp only [World.size_alloc]; omega
              intro v7 w7 hA7
              have hown6 := own_later HOW5.out (Later.alloc w5 (.cells #[.int .i64 x.k, .int .i64 x.n, .string x.t] 40 (0, 0)))
              have hlow := hA7.low hown6
              have hX7 := hA7.obj ((Later.alloc w5 (.cells #[.int .i64 x.k, .int .i64 x.n, .string x.t] 40 (0, 0))).obj HX5.out) (fun e => by have := (hown6.lt _ e.symm).1; have := HXB.out; omega)
              have hR7 := (HR5.out.later (Later.alloc w5 (.cells #[.int .i64 x.k, .int .i64 x.n, .string x.t] 40 (0, 0)))).keep hlow fun b hb => Nat.lt_of_le_of_lt hb HRB.out
              have hK7 := (HK5.out.more (Later.alloc w5 (.cells #[.int .i64 x.k, .int .i64 x.n, .string x.t] 40 (0, 0)))).low hlow
              obtain ⟨a7, c7, rfl⟩ := ownsRow_slice hA7.own
              have HX8 := hid (obj_setCell (i := 1) hX7 (.slice a7 (ys.length + 1) c7))
              have HO8 := hid (own_set hA7.own (p := ⟨w2.heap.size, 1, none⟩) (own_ne hA7.own hX7 (by decide)) (.slice a7 (ys.length + 1) c7))
              have HR8 := hid (hR7.other (p := ⟨w2.heap.size, 1, none⟩) HXR.out (.slice a7 (ys.length + 1) c7))
              have HK8 := hid (hK7.setCell (p := ⟨w2.heap.size, 1, none⟩) (.inl (by simp)) (.slice a7 (ys.length + 1) c7))
              clear q1 p1
              have q1 := cell_obj (i := 1) hX7 (v := .slice va ys.length vc) rfl
              have p1 := free_obj (i := 1) hX7
              clear hown6 hlow hX7 hR7 hK7 hA7
              simp only [List.setIfInBounds_toArray, List.set] at HX8
              go_wp2_with fail
              have hlen : (ys ++ [x]).length = ys.length + 1 := by simp
              refine Round.mk' HR2.out Hmu2.out rfl ?_ ?_
              · exact ⟨wrap64 (d - 1), ys ++ [x], r5, bd5, a7, c7, rfl, by rw [hlen]; exact count_next HDC.out, by rw [hlen]; exact HX8.out, by rw [hlen, valCells_snoc]; exact HO8.out, HR8.out, HK8.out, fun h => ⟨HGB.out, by rw [hlen]; exact dMany_step HGD.out (HG5.out h), fun hk => by have := HGK.out hk; rw [hlen]; omega⟩, fun h => dRow_none3 (HGOOD.out HGB.out).1 (HGOOD.out HGB.out).2 HGD.out (HB5.out h) HGK.out⟩
              · rw [Hh5.out]; exact count_less (count_in HDC.out).1 (count_in HDC.out).2 hd0
end Go.Proofs.YthfgjmdmcoogpaaDoor
