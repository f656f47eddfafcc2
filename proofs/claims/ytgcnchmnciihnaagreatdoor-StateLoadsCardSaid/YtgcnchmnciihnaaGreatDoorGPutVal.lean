/-
  PROVED HERE: the contract of wire.PutValue.
  PROVED HERE: in plain Lean: a value that is written is read to the same. No program of its own.
  PROVED HERE: how long a value's text is at most.
  PROVED HERE: the contracts of value.Hash, value.Group, of the document's Hash and Group.
-/
import Derived.Test.YtgcnchmnciihnaaGreatDoorGReaderValue
import Derived.Test.YtgcnchmnciihnaaGreatDoorGShow
import Derived.Test.YtgcnchmnciihnaaGreatDoorGErr
namespace Go.Proofs.YtgcnchmnciihnaaGreatDoor
set_option linter.unusedSimpArgs false
set_option linter.unusedVariables false
open Go.RowKit

set_option maxRecDepth 100000 in
set_option maxHeartbeats 2000000 in
theorem put_value (B : Nat) (v : Value) (l : List UInt8) (x : Val) (w : World) (hx : ValOk x) (hown : w.ownsRow B 5 1 v l.length (byteCells l)) (hB : B ≤ w.heap.size) (hsz : (l ++ encVal x).length + 30 ≤ 70368744177664) :
    Calls Tryz.prog 29 #[v, x.v] w (PutTo 5 w B v (l ++ encVal x)) := by
  obtain ⟨ii, hi, hz0, hz1, hz2⟩ := info_parts infoU8
  have HI := hid hi; have HZ0 := hid hz0; have HZ1 := hid hz1; have HZ2 := hid hz2; clear hi hz0 hz1 hz2
  have HO := hid hown
  obtain ⟨hk, hn, ht⟩ := hx
  have hk' : -9223372036854775808 ≤ x.k ∧ x.k ≤ 9223372036854775807 := by simpa [Lit.wf, IntKind.min, IntKind.max, IntKind.bits, IntKind.signed] using hk
  obtain ⟨hk1, hk2⟩ := hk'
  have HN := hid hn
  clear hown hk hn
  have hgb : ∀ g, v.ownBlock = some g → g < w.heap.size := fun g hg => (owns_block HO.out g hg).2
  have HGB := hid hgb
  clear hgb
  have hkb : IntKind.u8.wrap x.k = ((UInt8.ofNat (x.k % 256).toNat).toNat : Int) := by rw [IntKind.wrap_u8, UInt8.toNat_ofNat']; omega
  have HKB := hid hkb
  have HE : Hid (encVal x = UInt8.ofNat (x.k % 256).toNat :: (if x.k = 1 ∨ x.k = 2 then encInt x.n else if x.k = 3 then encText x.t else [])) := hid rfl
  have hsz0 : l.length + 31 ≤ 70368744177664 := by rw [HE.out, List.length_append, List.length_cons] at hsz; omega
  clear hkb
  go_enter Tryz.func29, Tryz.ntmps29
  go_wp2_with (at_builtin; go_loud (refine wpList_put_byte rfl _ _ 35 rfl B 5 ii Tryz.underlying35 HI.out HZ0.out HZ1.out HZ2.out _ l rfl (owns_later (owns_later HO.out (Later.alloc _ _)) (Later.alloc _ _)) (w.heap.size + 1) _ rfl (cell_obj (i := 0) (by simpa using obj_new (w.alloc (.cells #[.int .i64 x.k, .int .i64 x.n, .string x.t] 52)) _) rfl) _ HKB.out ?c1 ?c2 ?_))
  case c1 => omega
  case c2 => simp; omega
  intro v1 w1 hp1
  have hbx : some w.heap.size ≠ v.ownBlock := fun e => by have := HGB.out _ e.symm; omega
  have hX := hp1.keep.obj (b := w.heap.size) hbx ((Later.alloc _ _).obj (obj_new _ _))
  have c0 := cell_obj (i := 0) hX rfl
  have c1 := cell_obj (i := 1) hX rfl
  have c2 := cell_obj (i := 2) hX rfl
  have HP := hid (Put.ahead (Later.trans _ _ _ (Later.alloc w _) (Later.alloc _ _)) hp1)
  clear hp1 hX hbx
  have hB1 : B ≤ w1.heap.size := Nat.le_trans hB HP.out.keep.size
  by_cases k1 : x.k = 1
  · have HE1 : Hid (encVal x = UInt8.ofNat (x.k % 256).toNat :: encInt x.n) := hid (by rw [HE.out, if_pos (.inl k1)])
    go_wp2_with fail
    refine (put_int B v1 _ x.n _ HN.out HP.out.own hB1 (by simp; omega)).mono ?_
    rintro e w2 ⟨v2, rfl, hp2⟩
    have HP2 := hid (HP.out.trans hp2)
    clear hp2
    go_wp2
    go_ret
    refine ⟨v2, rfl, ?_⟩
    have := HP2.out
    rw [List.append_assoc, List.singleton_append, ← HE1.out] at this
    exact this
  by_cases k2 : x.k = 2
  · have HE1 : Hid (encVal x = UInt8.ofNat (x.k % 256).toNat :: encInt x.n) := hid (by rw [HE.out, if_pos (.inr k2)])
    go_wp2_with fail
    refine (put_int B v1 _ x.n _ HN.out HP.out.own hB1 (by simp; omega)).mono ?_
    rintro e w2 ⟨v2, rfl, hp2⟩
    have HP2 := hid (HP.out.trans hp2)
    clear hp2
    go_wp2
    go_ret
    refine ⟨v2, rfl, ?_⟩
    have := HP2.out
    rw [List.append_assoc, List.singleton_append, ← HE1.out] at this
    exact this
  by_cases k3 : x.k = 3
  · have HE1 : Hid (encVal x = UInt8.ofNat (x.k % 256).toNat :: encText x.t) := hid (by rw [HE.out, if_neg (by omega), if_pos k3])
    have hst : l.length + 1 + x.t.size + 30 ≤ 70368744177664 := by
      have e3 : x.t.data.toList.length = x.t.size := by rw [Array.length_toList]; rfl
      rw [HE1.out] at hsz
      simp only [encText, List.length_append, List.length_cons, e3] at hsz
      omega
    go_wp2_with fail
    refine (put_text B v1 _ x.t _ HP.out.own hB1 (by simp; omega)).mono ?_
    rintro e w2 ⟨v2, rfl, hp2⟩
    have HP2 := hid (HP.out.trans hp2)
    clear hp2
    go_wp2
    go_ret
    refine ⟨v2, rfl, ?_⟩
    have := HP2.out
    rw [List.append_assoc, List.singleton_append, ← HE1.out] at this
    exact this
  · have HE1 : Hid (encVal x = [UInt8.ofNat (x.k % 256).toNat]) := hid (by rw [HE.out, if_neg (by omega), if_neg k3])
    go_wp2
    go_ret
    refine ⟨_, rfl, ?_⟩
    rw [HE1.out]
    exact HP.out
end Go.Proofs.YtgcnchmnciihnaaGreatDoor
namespace Go.Proofs.YtgcnchmnciihnaaGreatDoor
set_option linter.unusedSimpArgs false
set_option linter.unusedVariables false
open Go Go.RowKit

theorem str_none {t : ByteArray} (h : str t = []) : t = ⟨#[]⟩ := by
  have : t.data.toList = [] := by
    have h2 : t.toList = [] := h
    rwa [Go.ByteArray.toList_eq] at h2
  rw [← strB_data t, this]
  rfl
theorem dText_enc (t : ByteArray) (h : t.size ≤ 9223372036854775807) (r : List UInt8) : dText (encText t ++ r) = some (t, r) := by
  unfold dText encText
  rw [List.append_assoc, dInt_enc (by omega) (by omega)]
  have hl : t.data.toList.length = t.size := by rw [Array.length_toList]; rfl
  simp only
  rw [if_neg (by rw [List.length_append]; omega)]
  simp only [Int.toNat_natCast]
  rw [← hl, List.take_left, List.drop_left]
  rfl
theorem dVal_enc {x : Val} (hv : validV x = true) (hn : -9223372036854775808 ≤ x.n ∧ x.n ≤ 9223372036854775807) (ht : x.t.size ≤ 9223372036854775807) (r : List UInt8) : dVal (encVal x ++ r) = some (x, r) := by
  obtain ⟨k, n, t⟩ := x
  simp only at hn ht
  have hk : k = 0 ∨ k = 1 ∨ k = 2 ∨ k = 3 := by
    unfold validV at hv
    simp only at hv
    split at hv
    · left; assumption
    · split at hv
      · right; left; assumption
      · split at hv
        · right; right; left; assumption
        · split at hv
          · right; right; right; assumption
          · cases hv
  have hv0 := hv
  rcases hk with rfl | rfl | rfl | rfl
  · simp [validV] at hv
    obtain ⟨rfl, ht0⟩ := hv
    obtain rfl := str_none ht0
    show (match dFill ((UInt8.ofNat ((0 : Int) % 256).toNat).toNat : Int) r with | none => none | some (v, r') => if validV v then some (v, r') else none) = _
    have : dFill ((UInt8.ofNat ((0 : Int) % 256).toNat).toNat : Int) r = some (⟨0, 0, ⟨#[]⟩⟩, r) := rfl
    rw [this]
    exact if_pos hv0
  · simp [validV] at hv
    obtain rfl := str_none hv
    simp only [encVal, List.cons_append, dVal]
    have : dFill ((UInt8.ofNat ((1 : Int) % 256).toNat).toNat : Int) (encInt n ++ r) = some (⟨1, n, ⟨#[]⟩⟩, r) := by
      show dFill 1 _ = _
      unfold dFill
      rw [if_pos (.inl rfl), dInt_enc hn.1 hn.2]
      rfl
    simp only [true_or, if_true]
    rw [this]
    exact if_pos hv0
  · simp [validV] at hv
    obtain rfl := str_none hv.1
    simp only [encVal, List.cons_append, dVal]
    have : dFill ((UInt8.ofNat ((2 : Int) % 256).toNat).toNat : Int) (encInt n ++ r) = some (⟨2, n, ⟨#[]⟩⟩, r) := by
      show dFill 2 _ = _
      unfold dFill
      rw [if_pos (.inr rfl), dInt_enc hn.1 hn.2]
      rfl
    simp only [or_true, if_true]
    rw [this]
    exact if_pos hv0
  · simp [validV] at hv
    obtain ⟨rfl, -⟩ := hv
    simp only [encVal, List.cons_append, dVal]
    have : dFill ((UInt8.ofNat ((3 : Int) % 256).toNat).toNat : Int) (encText t ++ r) = some (⟨3, 0, t⟩, r) := by
      show dFill 3 _ = _
      unfold dFill
      rw [if_neg (by decide), if_pos rfl, dText_enc t ht]
      rfl
    simp only [show ¬ ((3 : Int) = 1 ∨ (3 : Int) = 2) by decide, if_false, if_true]
    rw [this]
    exact if_pos hv0
theorem dMany_enc {α : Type} {d : List UInt8 → Option (α × List UInt8)} {e : α → List UInt8} : ∀ (xs : List α) (r : List UInt8), (∀ x ∈ xs, ∀ r, d (e x ++ r) = some (x, r)) → dMany d xs.length (xs.flatMap e ++ r) = some (xs, r)
  | [], r, _ => rfl
  | x :: xs, r, h => by
    simp only [List.length_cons, List.flatMap_cons, List.append_assoc, dMany]
    rw [h x List.mem_cons_self]
    simp only
    rw [dMany_enc xs r fun y hy => h y (List.mem_cons_of_mem _ hy)]
    rfl
theorem valOk_int {x : Val} (h : ValOk x) : -9223372036854775808 ≤ x.n ∧ x.n ≤ 9223372036854775807 := by
  have := h.2.1
  simpa [Lit.wf, IntKind.min, IntKind.max, IntKind.bits, IntKind.signed] using this
theorem valOk_text {x : Val} (h : ValOk x) : x.t.size ≤ 9223372036854775807 := by
  have := h.2.2
  unfold maxLen at this
  omega
end Go.Proofs.YtgcnchmnciihnaaGreatDoor
namespace Go.Proofs.YtgcnchmnciihnaaGreatDoor
set_option linter.unusedSimpArgs false
set_option linter.unusedVariables false
open Go.RowKit

theorem showV_len (x : Val) (hn : -9223372036854775808 ≤ x.n ∧ x.n ≤ 9223372036854775807) : (showV x).length ≤ 200 := by
  unfold showV
  split
  · rename_i hv
    split
    · unfold Lib.itoa
      split
      · have := dec_len 19 x.n.natAbs (by omega)
        simp only [List.length_cons]; omega
      · have := dec_len 19 x.n.toNat (by omega)
        omega
    · split
      · split <;> simp
      · split
        · rename_i h1 h2 h3
          unfold validV at hv
          simp [h3] at hv
          have := flat_len x.t.data.toList
          have hz : x.t.data.toList.length = x.t.size := rfl
          simp only [quoteL, List.length_cons, List.length_append, List.length_nil]
          omega
        · simp
  · simp
end Go.Proofs.YtgcnchmnciihnaaGreatDoor
namespace Go.Proofs.YtgcnchmnciihnaaGreatDoor
set_option linter.unusedSimpArgs false
set_option linter.unusedVariables false
open Go.RowKit

/-- a step of the sum. -/
def hStep (h : Int) (c : UInt8) : Int := IntKind.u64.wrap (bits BinOp.xor IntKind.u64 h (c.toNat : Int) * 1099511628211)
def hashC (h : Int) (l : List UInt8) : Int := l.foldl hStep h
def hashK (vs : List Val) : Int := vs.foldl (fun h x => hashC h (showV x ++ [10])) 14695981039346656037
theorem u64_wrap_range (n : Int) : 0 ≤ IntKind.u64.wrap n ∧ IntKind.u64.wrap n < 18446744073709551616 := by
  rw [IntKind.wrap_u64]
  omega
theorem hashC_snoc {l : List UInt8} {k : Nat} (h : k < l.length) (a : Int) : hashC a (l.take (k + 1)) = hStep (hashC a (l.take k)) l[k] := by
  unfold hashC
  rw [List.take_succ_eq_append_getElem h, List.foldl_append]
  rfl
theorem hashC_range (l : List UInt8) (a : Int) (ha : 0 ≤ a ∧ a < 18446744073709551616) : 0 ≤ hashC a l ∧ hashC a l < 18446744073709551616 := by
  induction l generalizing a with
  | nil => exact ha
  | cons c l ih => exact ih _ (u64_wrap_range _)
def hashP (vs : List Val) (k : Nat) : Int := hashK (vs.take k)
theorem hashP_snoc {l : List Val} {k : Nat} (h : k < l.length) : hashP l (k + 1) = hashC (hashP l k) (showV l[k] ++ [10]) := by
  unfold hashP hashK
  rw [List.take_succ_eq_append_getElem h, List.foldl_append]
  rfl
theorem hashK_range (l : List Val) : 0 ≤ hashK l ∧ hashK l < 18446744073709551616 := by
  unfold hashK
  have key : ∀ (l : List Val) (a : Int), 0 ≤ a ∧ a < 18446744073709551616 → 0 ≤ l.foldl (fun h x => hashC h (showV x ++ [10])) a ∧ l.foldl (fun h x => hashC h (showV x ++ [10])) a < 18446744073709551616 := by
    intro l
    induction l with
    | nil => exact fun a ha => ha
    | cons c l ih => exact fun a ha => ih _ (hashC_range _ _ ha)
  exact key l _ (by omega)

def U64To (w : World) (h : Int) (e : Ending) (w' : World) : Prop := e = .returned (.int .u64 h) ∧ Later w w'
set_option maxRecDepth 100000 in
set_option maxHeartbeats 2000000 in
theorem hash_any (l : List Val) (v : Value) (w : World) (hv : IsVals w v l) (hg : ∀ x ∈ l, ValOk x) (ht : PowTab w) : Calls Tryz.prog 47 #[v] w (U64To w (hashK l)) := by
  obtain ⟨p, c, rfl, hac, hcm, -, hea⟩ := hv
  have HT := hid ht
  have HE := hid hea
  have HG := hid hg
  have hlm : l.length ≤ 9223372036854775807 := by unfold maxLen at hcm; omega
  clear ht hea hg hac hcm
  go_enter Tryz.func47, Tryz.ntmps47
  go_wp2_with fail
  obtain ⟨R1, hR1⟩ : ∃ RR_ : (Nat → Value) → World → Prop, RR_ = (fun us wx => ∃ k : Nat, k ≤ l.length ∧ us 10 = .int .i64 k ∧ us 3 = .int .u64 (hashP l k) ∧ Later w wx) := ⟨_, rfl⟩
  obtain ⟨mu1, hmu1⟩ : ∃ mu : (Nat → Value) → World → Nat, mu = (fun us _ => l.length - (intOf (us 10)).toNat) := ⟨_, rfl⟩
  have HR1 := hid hR1; have Hmu1 := hid hmu1; clear hR1 hmu1
  refine wp_loop_frame' [false, false, false, true, false, true, false, true, false, false, true, true, true, true, true, true, true, true, true, true, true, true, true, true, true, true, true, true, true, true] R1 _ mu1 HR1.out ?_ ?_
  · exact ⟨0, by omega, rfl, rfl, Later.refl _⟩
  intro us1 wx hrel
  obtain ⟨k, hk, h10, h3, hL⟩ := hrel
  simp only [frameOf, Nat.reduceAdd, h10, h3]
  have Hh10 := hid h10; clear h10
  have Hh3 := hid h3; clear h3
  have HL := hid hL
  clear hL
  by_cases hlt : k < l.length
  · obtain ⟨b1, o1, rfl, -, e1⟩ := HE.out k hlt
    obtain ⟨p1, p2, p3⟩ := e1.later HL.out
    have HX := hid (hashP_snoc hlt)
    have hok := HG.out _ (List.getElem_mem hlt)
    have hkk : (0 : Int) ≤ k := by omega
    have HR : Hid (0 ≤ hashP l k ∧ hashP l k < 18446744073709551616) := hid (hashK_range _)
    generalize hashP l k = h0 at *
    generalize l[k] = x at *
    obtain ⟨xk, xn, xt⟩ := x
    simp only at p1 p2 p3
    have HN : Hid ((Lit.int .i64 xn).wf = true) := hid hok.2.1
    have HSL : Hid ((showV ⟨xk, xn, xt⟩).length ≤ 200) := hid (showV_len _ (by simpa [Lit.wf, IntKind.min, IntKind.max, IntKind.bits, IntKind.signed] using hok.2.1))
    clear e1 hok
    go_wp2_with fail
    refine (show_any ⟨xk, xn, xt⟩ _ HN.out (HT.out.later (Later.trans _ _ _ HL.out (Later.alloc _ _)))).mono ?_
    rintro e w1 ⟨rfl, hL1⟩
    have HL1 := hid (Later.trans _ _ _ HL.out (Later.of_alloc hL1))
    obtain ⟨sl, hsl⟩ : ∃ sl, sl = showV ⟨xk, xn, xt⟩ ++ [10] := ⟨_, rfl⟩
    have HEQ : Hid (strB (showV ⟨xk, xn, xt⟩) ++ (⟨#[10]⟩ : ByteArray) = strB sl) := hid (by rw [hsl, show (⟨#[10]⟩ : ByteArray) = strB [10] from rfl, strB_append])
    have hslz : sl.length ≤ 201 := by rw [hsl, List.length_append]; have := HSL.out; simp only [List.length_cons, List.length_nil]; omega
    rw [← hsl] at HX
    have hz1 : (strB (showV ⟨xk, xn, xt⟩)).size = (showV ⟨xk, xn, xt⟩).length := strB_size _
    have hz2 := HSL.out
    clear hL1 p1 p2 p3 hsl
    have heq := HEQ.out
    go_wp2_with (refine wpList_bytes_of rfl _ 9 35 5 rfl Tryz.underlying9 Tryz.underlying35 Tryz.underlying5 (strB sl) rfl ?_)
    intro c2 w2 hL2 _ hcell
    have HC : Hid (∀ j (hj : j < sl.length), w2.cell? ⟨w1.heap.size, j, none⟩ = some (.int .u8 ((sl[j]).toNat : Int))) := hid fun j hj => hcell j hj
    have HL2 := hid (Later.trans _ _ _ HL1.out hL2)
    have hz3 : (strB sl).size = sl.length := strB_size _
    obtain ⟨B, hB⟩ : ∃ B, B = w1.heap.size := ⟨_, rfl⟩
    rw [← hB] at HC ⊢
    clear hcell hL2 hB heq hz1 hz2
    go_wp2_with fail
    obtain ⟨R2, hR2⟩ : ∃ RR_ : (Nat → Value) → World → Prop, RR_ = (fun us wy => ∃ j : Nat, j ≤ sl.length ∧ us 19 = .int .i64 j ∧ us 3 = .int .u64 (hashC h0 (sl.take j)) ∧ wy = w2) := ⟨_, rfl⟩
    obtain ⟨mu2, hmu2⟩ : ∃ mu : (Nat → Value) → World → Nat, mu = (fun us _ => sl.length - (intOf (us 19)).toNat) := ⟨_, rfl⟩
    have HR2 := hid hR2; have Hmu2 := hid hmu2; clear hR2 hmu2
    refine wp_loop_frame' [false, false, false, true, false, false, false, true, false, false, false, false, false, false, false, false, false, false, false, true, true, true, true, true, true, true, true, true, true] R2 _ mu2 HR2.out ?_ ?_
    · exact ⟨0, by omega, rfl, rfl, rfl⟩
    intro us2 wy hrel
    obtain ⟨j, hj, h19, h3, rfl⟩ := hrel
    simp only [frameOf, Nat.reduceAdd, h19, h3]
    have Hh19 := hid h19; clear h19
    have Hh3 := hid h3; clear h3
    by_cases hlt2 : j < sl.length
    · have q0 := HC.out j hlt2
      have HS := hid (hashC_snoc hlt2 h0)
      have hrr := hashC_range (sl.take j) h0 HR.out
      generalize hashC h0 (sl.take j) = a0 at *
      generalize sl[j] = ch at *
      have hc8 := ch.toNat_lt
      have hjj : (0 : Int) ≤ j := by omega
      go_wp2_with fail
      refine Round.mk' HR2.out Hmu2.out rfl ?_ ?_
      · exact ⟨j + 1, by omega, by go_num, congrArg (Value.int .u64) HS.out.symm, rfl⟩
      · rw [Hh19.out]; simp [intOf, slots]; omega
    · obtain rfl : j = sl.length := by omega
      rw [List.take_length]
      go_wp2_with fail
      refine Round.mk' HR1.out Hmu1.out rfl ?_ ?_
      · exact ⟨k + 1, by omega, by go_num, congrArg (Value.int .u64) HX.out.symm, HL2.out⟩
      · rw [Hh10.out]; simp [intOf, slots]; omega
  · obtain rfl : k = l.length := by omega
    have HQ : Hid (hashP l l.length = hashK l) := hid (by unfold hashP; rw [List.take_length])
    rw [HQ.out]
    go_wp2_with fail
    go_ret
    exact ⟨rfl, HL.out⟩

set_option maxRecDepth 100000 in
set_option maxHeartbeats 2000000 in
theorem rhash_any (l : List Val) (v : Value) (w : World) (hv : IsVals w v l) (hg : ∀ x ∈ l, ValOk x) : Calls Tryz.prog 34 #[v] w (U64To w (hashK l)) := by
  obtain ⟨p, c, rfl, hac, hcm, -, hea⟩ := hv
  have HE := hid hea
  have HG := hid hg
  have hlm : l.length ≤ 9223372036854775807 := by unfold maxLen at hcm; omega
  clear hea hg hac hcm
  go_enter Tryz.func34, Tryz.ntmps34
  go_wp2_with fail
  obtain ⟨R1, hR1⟩ : ∃ RR_ : (Nat → Value) → World → Prop, RR_ = (fun us wx => ∃ k : Nat, k ≤ l.length ∧ us 4 = .int .i64 k ∧ us 3 = .int .u64 (hashP l k) ∧ Later w wx) := ⟨_, rfl⟩
  obtain ⟨mu1, hmu1⟩ : ∃ mu : (Nat → Value) → World → Nat, mu = (fun us _ => l.length - (intOf (us 4)).toNat) := ⟨_, rfl⟩
  have HR1 := hid hR1; have Hmu1 := hid hmu1; clear hR1 hmu1
  refine wp_loop_frame' [false, false, false, true, true, true, true, true, true, true, true, true, true, true, true, true, true, true, true, true, true, true, true, true, true, true, true, true, true, true, true, true, true, true] R1 _ mu1 HR1.out ?_ ?_
  · exact ⟨0, by omega, rfl, rfl, Later.refl _⟩
  intro us1 wx hrel
  obtain ⟨k, hk, h4, h3, hL⟩ := hrel
  simp only [frameOf, Nat.reduceAdd, h4, h3]
  have Hh4 := hid h4; clear h4
  have Hh3 := hid h3; clear h3
  have HL := hid hL
  clear hL
  by_cases hlt : k < l.length
  · obtain ⟨b1, o1, rfl, -, e1⟩ := HE.out k hlt
    obtain ⟨p1, p2, p3⟩ := e1.later HL.out
    have HX := hid (hashP_snoc hlt)
    have hok := HG.out _ (List.getElem_mem hlt)
    have hkk : (0 : Int) ≤ k := by omega
    have HR : Hid (0 ≤ hashP l k ∧ hashP l k < 18446744073709551616) := hid (hashK_range _)
    generalize hashP l k = h0 at *
    generalize l[k] = x at *
    obtain ⟨xk, xn, xt⟩ := x
    simp only at p1 p2 p3
    have HN : Hid ((Lit.int .i64 xn).wf = true) := hid hok.2.1
    have HSL : Hid ((showV ⟨xk, xn, xt⟩).length ≤ 200) := hid (showV_len _ (by simpa [Lit.wf, IntKind.min, IntKind.max, IntKind.bits, IntKind.signed] using hok.2.1))
    clear e1 hok
    go_wp2_with fail
    refine (rshow_any ⟨xk, xn, xt⟩ _ HN.out).mono ?_
    rintro e w1 ⟨rfl, hL1⟩
    have HL1 := hid (Later.trans _ _ _ HL.out hL1)
    obtain ⟨sl, hsl⟩ : ∃ sl, sl = showV ⟨xk, xn, xt⟩ ++ [10] := ⟨_, rfl⟩
    have HEQ : Hid (strB (showV ⟨xk, xn, xt⟩) ++ (⟨#[10]⟩ : ByteArray) = strB sl) := hid (by rw [hsl, show (⟨#[10]⟩ : ByteArray) = strB [10] from rfl, strB_append])
    have hslz : sl.length ≤ 201 := by rw [hsl, List.length_append]; have := HSL.out; simp only [List.length_cons, List.length_nil]; omega
    rw [← hsl] at HX
    have hz1 : (strB (showV ⟨xk, xn, xt⟩)).size = (showV ⟨xk, xn, xt⟩).length := strB_size _
    have hz2 := HSL.out
    have hz3 : (strB sl).size = sl.length := strB_size _
    have HIX : Hid (∀ j (hj : j < sl.length) (hj' : j < (strB sl).size), (strB sl)[j]'hj' = sl[j]) := hid fun j h1 h2 => rfl
    clear hL1 p1 p2 p3 hsl
    go_upto_region 7 with (fail)
    rw [HEQ.out]
    clear hz1 hz2
    go_wp2_with fail
    obtain ⟨R2, hR2⟩ : ∃ RR_ : (Nat → Value) → World → Prop, RR_ = (fun us wy => ∃ j : Nat, j ≤ sl.length ∧ us 6 = .int .i64 j ∧ us 3 = .int .u64 (hashC h0 (sl.take j)) ∧ wy = w1) := ⟨_, rfl⟩
    obtain ⟨mu2, hmu2⟩ : ∃ mu : (Nat → Value) → World → Nat, mu = (fun us _ => sl.length - (intOf (us 6)).toNat) := ⟨_, rfl⟩
    have HR2 := hid hR2; have Hmu2 := hid hmu2; clear hR2 hmu2
    refine wp_loop_frame' [false, false, false, true, false, false, true, false, false, false, false, false, false, false, false, false, false, false, false, false, true, true, true, true, true, true, true, true, true, true, true, true, true, true] R2 _ mu2 HR2.out ?_ ?_
    · exact ⟨0, by omega, rfl, rfl, rfl⟩
    intro us2 wy hrel
    obtain ⟨j, hj, h6, h3, rfl⟩ := hrel
    simp only [frameOf, Nat.reduceAdd, h6, h3]
    have Hh6 := hid h6; clear h6
    have Hh3 := hid h3; clear h3
    by_cases hlt2 : j < sl.length
    · have hlt3 : j < (strB sl).size := by omega
      have hix := HIX.out j hlt2 hlt3
      have HS := hid (hashC_snoc hlt2 h0)
      generalize hashC h0 (sl.take j) = a0 at *
      generalize sl[j] = ch at *
      have hc8 := ch.toNat_lt
      have hjj : (0 : Int) ≤ j := by omega
      go_wp2_with fail
      refine Round.mk' HR2.out Hmu2.out rfl ?_ ?_
      · exact ⟨j + 1, by omega, by go_num, congrArg (Value.int .u64) HS.out.symm, rfl⟩
      · rw [Hh6.out]; simp [intOf, slots]; omega
    · obtain rfl : j = sl.length := by omega
      rw [List.take_length]
      go_wp2_with fail
      refine Round.mk' HR1.out Hmu1.out rfl ?_ ?_
      · exact ⟨k + 1, by omega, by go_num, congrArg (Value.int .u64) HX.out.symm, HL1.out⟩
      · rw [Hh4.out]; simp [intOf, slots]; omega
  · obtain rfl : k = l.length := by omega
    have HQ : Hid (hashP l l.length = hashK l) := hid (by unfold hashP; rw [List.take_length])
    rw [HQ.out]
    go_wp2_with fail
    go_ret
    exact ⟨rfl, HL.out⟩

def groupK (l : List Val) : Nat := (hashK l).toNat % 32
theorem group_any (l : List Val) (v : Value) (w : World) (hv : IsVals w v l) (hg : ∀ x ∈ l, ValOk x) (ht : PowTab w) : Calls Tryz.prog 27 #[v] w (NumTo w (groupK l)) := by
  have HV := hid hv
  have HG := hid hg
  have HT := hid ht
  have hr := hashK_range l
  obtain ⟨n, hn⟩ := Int.eq_ofNat_of_zero_le hr.1
  have HN : Hid (hashK l = n) := hid hn
  have HK : Hid (((n : Int)).tmod 32 = (groupK l : Int)) := hid (by rw [Int.tmod_eq_emod_of_nonneg (by omega)]; unfold groupK; rw [hn]; omega)
  have hb : groupK l < 32 := Nat.mod_lt _ (by decide)
  rw [hn] at hr
  clear hv hg ht hn
  go_enter Tryz.func27, Tryz.ntmps27
  go_wp2_with fail
  refine (hash_any l v _ HV.out HG.out HT.out).mono ?_
  rintro e w1 ⟨rfl, hL⟩
  rw [HN.out]
  have hk := HK.out
  have HL := hid hL
  clear hL
  go_wp2_with fail
  go_ret
  exact ⟨rfl, HL.out⟩
theorem rgroup_any (l : List Val) (v : Value) (w : World) (hv : IsVals w v l) (hg : ∀ x ∈ l, ValOk x) : Calls Tryz.prog 14 #[v] w (NumTo w (groupK l)) := by
  have HV := hid hv
  have HG := hid hg
  have hr := hashK_range l
  obtain ⟨n, hn⟩ := Int.eq_ofNat_of_zero_le hr.1
  have HN : Hid (hashK l = n) := hid hn
  have HK : Hid (((n : Int)).tmod 32 = (groupK l : Int)) := hid (by rw [Int.tmod_eq_emod_of_nonneg (by omega)]; unfold groupK; rw [hn]; omega)
  have hb : groupK l < 32 := Nat.mod_lt _ (by decide)
  rw [hn] at hr
  clear hv hg hn
  go_enter Tryz.func14, Tryz.ntmps14
  go_wp2_with fail
  refine (rhash_any l v _ HV.out HG.out).mono ?_
  rintro e w1 ⟨rfl, hL⟩
  rw [HN.out]
  have hk := HK.out
  have HL := hid hL
  clear hL
  go_wp2_with fail
  go_ret
  exact ⟨rfl, HL.out⟩

end Go.Proofs.YtgcnchmnciihnaaGreatDoor
