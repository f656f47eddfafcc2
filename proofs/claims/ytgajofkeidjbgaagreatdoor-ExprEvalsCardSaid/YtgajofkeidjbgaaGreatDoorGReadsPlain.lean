/-
  PROVED HERE: a part of the proof of ExprEvals: ReadsPlain, ParseHex.
-/
import Derived.Test.YtgajofkeidjbgaaGreatDoorGRefQuote
import Derived.Lib.ParseIntBCases
import Derived.Lib.ParseIntBTie
import Derived.Test.YtgajofkeidjbgaaGreatDoorShort
import Derived.Test.YtgajofkeidjbgaaGreatDoorShelf2
import Derived.Test.YtgajofkeidjbgaaGreatDoorGApp
namespace Go.Proofs.YtgajofkeidjbgaaGreatDoor
set_option linter.unusedSimpArgs false
set_option linter.unusedVariables false
open Go.RowKit Go.Lib
theorem parse_app (M : Nat) : ∀ (a : List UInt8) (acc : Nat) (b : List UInt8) (u : Nat),parseUintM M acc a = .ok u → parseUintM M acc (a ++ b) = parseUintM M u b
 | [],acc,b,u,h => by
   simp only [parseUintM] at h
   injection h with h
   subst h
   rfl
 | c :: a,acc,b,u,h => by
   simp only [parseUintM,List.cons_append] at h ⊢
   split at h
   ·rename_i h1
    rw [if_pos h1]
    split at h
    ·cases h
    ·rename_i h2
     rw [if_neg h2]
     split at h
     ·cases h
     ·rename_i h3
      rw [if_neg h3]
      exact parse_app M a _ b u h
   ·cases h
theorem digit_nat (d : Nat) (h : d < 10) : (UInt8.ofNat (48 + d)).toNat = 48 + d := by rw [UInt8.toNat_ofNat']; omega
theorem parse_dec (M u : Nat) (hu : u ≤ M) (h64 : u < 18446744073709551616) : parseUintM M 0 (decDigits u) = .ok u := by
 induction u using Nat.strongRecOn with
 | ind u ih =>
   rw [decDigits]
   by_cases h : u < 10
   ·rw [dif_pos h]
    simp only [parseUintM,digit_nat u h]
    rw [if_pos (by omega),if_neg (by omega),if_neg (by omega)]
    congr 1
    omega
   ·rw [dif_neg h,parse_app M _ 0 _ _ (ih (u / 10) (by omega) (by omega) (by omega))]
    simp only [parseUintM,digit_nat (u % 10) (by omega)]
    rw [if_pos (by omega),if_neg (by omega),if_neg (by omega)]
    congr 1
    omega
theorem dec_ne (u : Nat) : decDigits u ≠ [] := by
 rw [decDigits]
 split <;> simp
theorem dec_digits (u : Nat) : ∀ c ∈ decDigits u,48 ≤ c.toNat ∧ c.toNat ≤ 57 := by
 induction u using Nat.strongRecOn with
 | ind u ih =>
   rw [decDigits]
   by_cases h : u < 10
   ·rw [dif_pos h]
    intro c hc
    obtain rfl := List.mem_singleton.1 hc
    rw [digit_nat u h]; omega
   ·rw [dif_neg h]
    intro c hc
    rcases List.mem_append.1 hc with hc | hc
    ·exact ih (u / 10) (by omega) c hc
    ·obtain rfl := List.mem_singleton.1 hc
     rw [digit_nat (u % 10) (by omega)]; omega
theorem parseUint_dec (u : Nat) (hu : u < 18446744073709551616) : parseUintB 64 (decDigits u) = .ok u := by
 unfold parseUintB
 rw [if_neg (dec_ne u)]
 exact parse_dec _ u (by omega) hu
theorem parse_itoa (n : Int) (h0 : -9223372036854775808 ≤ n) (h1 : n ≤ 9223372036854775807) : parseIntB 64 (itoa n) = .ok n := by
 unfold itoa
 by_cases hn : n < 0
 ·rw [if_pos hn,parseIntB_minus,parseUint_dec _ (by omega)]
  unfold signedC
  simp only
  rw [if_neg (by
    have : (2 : Nat) ^ (64 - 1) = 9223372036854775808 := by decide
    omega)]
  congr 1
  omega
 ·rw [if_neg hn]
  obtain ⟨c,r,hcr⟩ : ∃ c r,decDigits n.toNat = c :: r := by
   cases h : decDigits n.toNat with
   | nil => exact absurd h (dec_ne _)
   | cons c r => exact ⟨c,r,rfl⟩
  have hd := dec_digits n.toNat c (by rw [hcr]; exact List.mem_cons_self)
  have hp := parseUint_dec n.toNat (by omega)
  rw [hcr] at hp ⊢
  rw [parseIntB_plain _ _ _ (by omega) (by omega),hp]
  unfold signlessC
  simp only
  rw [if_neg (by
    have : (2 : Nat) ^ (64 - 1) = 9223372036854775808 := by decide
    omega)]
  congr 1
  omega
theorem parse_bad (c : UInt8) (r : List UInt8) (h : ¬ (48 ≤ c.toNat ∧ c.toNat ≤ 57)) (h43 : c.toNat ≠ 43) (h45 : c.toNat ≠ 45) : parseIntB 64 (c :: r) = NumEnd.syntax := by
 rw [parseIntB_plain _ _ _ h43 h45]
 unfold parseUintB
 rw [if_neg (by simp)]
 simp only [parseUintM,if_neg h]
 rfl
def qek (n : Int) (l : List UInt8) : Int := l.foldl (fun n c => if 48 ≤ c.toNat ∧ c.toNat ≤ 57 then wrap64 (wrap64 (n * 10) + ((c.toNat : Int) - 48)) else n) n
def wholeR (l : List UInt8) : Int := if l.head? = some 45 then wrap64 (-(qek 0 l)) else qek 0 l
theorem wholeF_dec (u : Nat) : qek 0 (decDigits u) = wrap64 u := by
 induction u using Nat.strongRecOn with
 | ind u ih =>
   rw [decDigits]
   by_cases h : u < 10
   ·rw [dif_pos h]
    unfold qek
    simp only [List.foldl_cons,List.foldl_nil,digit_nat u h]
    rw [if_pos (by omega)]
    unfold wrap64
    omega
   ·rw [dif_neg h]
    unfold qek at *
    rw [List.foldl_append,ih (u / 10) (by omega)]
    simp only [List.foldl_cons,List.foldl_nil,digit_nat (u % 10) (by omega)]
    rw [if_pos (by omega)]
    unfold wrap64
    omega
theorem wholeR_itoa (n : Int) (h0 : -9223372036854775808 ≤ n) (h1 : n ≤ 9223372036854775807) : wholeR (itoa n) = n := by
 unfold itoa wholeR
 by_cases hn : n < 0
 ·rw [if_pos hn,if_pos (show (45 :: decDigits n.natAbs).head? = some 45 from rfl)]
  have e : qek 0 (45 :: decDigits n.natAbs) = qek 0 (decDigits n.natAbs) := by
   unfold qek
   rw [List.foldl_cons,if_neg (by decide)]
  rw [e,wholeF_dec]
  unfold wrap64
  omega
 ·rw [if_neg hn]
  obtain ⟨c,r,hcr⟩ : ∃ c r,decDigits n.toNat = c :: r := by
   cases h : decDigits n.toNat with
   | nil => exact absurd h (dec_ne _)
   | cons c r => exact ⟨c,r,rfl⟩
  have hd := dec_digits n.toNat c (by rw [hcr]; exact List.mem_cons_self)
  rw [if_neg (by
   rw [hcr]
   simp only [List.head?_cons,Option.some.injEq]
   intro e
   subst e
   have : (45 : UInt8).toNat = 45 := rfl
   omega),wholeF_dec]
  unfold wrap64
  omega
def unqG (hv : UInt8 → Option Nat) : List UInt8 → List UInt8
 | [] => []
 | c :: r =>
   match r with
   | a :: b :: r' => if c = 92 then (match hv a,hv b with
       | some x,some y => UInt8.ofNat (16 * x + y) :: unqG hv r'
       | _,_ => c :: unqG hv (a :: b :: r')) else c :: unqG hv (a :: b :: r')
   | [a] => c :: unqG hv [a]
   | [] => [c]
theorem unqG_plain (hv : UInt8 → Option Nat) (c : UInt8) (r : List UInt8) (h : c ≠ 92) : unqG hv (c :: r) = c :: unqG hv r := by
 match r with
 | [] => simp [unqG]
 | [a] => simp [unqG]
 | a :: b :: r' => rw [unqG,if_neg h]
theorem unqG_hex (hv : UInt8 → Option Nat) (a b : UInt8) (r : List UInt8) {x y : Nat} (hx : hv a = some x) (hy : hv b = some y) : unqG hv (92 :: a :: b :: r) = UInt8.ofNat (16 * x + y) :: unqG hv r := by
 rw [unqG,if_pos rfl,hx,hy]
theorem unqG_quote (hv : UInt8 → Option Nat) (hh : ∀ k,k < 16 → hv (hexD k) = some k) : ∀ t : List UInt8,unqG hv (t.flatMap qcc) = t
 | [] => rfl
 | c :: t => by
   have ih := unqG_quote hv hh t
   rw [List.flatMap_cons]
   have hc := UInt8.toNat_lt c
   have eq : qcc c = if oddB c = true then [92,hexD (c.toNat / 16),hexD (c.toNat % 16)] else [c] := rfl
   rw [eq]
   split
   ·rw [List.cons_append,List.cons_append,List.cons_append,List.nil_append,unqG_hex hv _ _ _ (hh _ (by omega)) (hh _ (by omega)),ih]
    congr 1
    apply UInt8.toNat_inj.1
    rw [UInt8.toNat_ofNat']
    omega
   ·rename_i ho
    rw [List.cons_append,List.nil_append,unqG_plain hv c _ (fun e => ho (by subst e; decide)),ih]
def hexP (c : UInt8) : Option Nat := if 48 ≤ c.toNat ∧ c.toNat ≤ 57 then some (c.toNat - 48) else if 97 ≤ c.toNat ∧ c.toNat ≤ 102 then some (c.toNat - 87) else if 65 ≤ c.toNat ∧ c.toNat ≤ 70 then some (c.toNat - 55) else none
def hexR (c : UInt8) : Option Nat := if 48 ≤ c.toNat ∧ c.toNat ≤ 57 then some (c.toNat - 48) else if 97 ≤ c.toNat ∧ c.toNat ≤ 102 then some (c.toNat - 87) else none
theorem hexP_digit : ∀ k,k < 16 → hexP (hexD k) = some k := by decide
theorem hexR_digit : ∀ k,k < 16 → hexR (hexD k) = some k := by decide
def qcv (s : List UInt8) : List UInt8 := (s.drop 1).take (s.length - 2)
theorem inner_quote (l : List UInt8) : qcv (qdo l) = l.flatMap qcc := by
 unfold qcv qdo
 simp
def trueL : List UInt8 := [116,114,117,101]
def falseL : List UInt8 := [102,97,108,115,101]
def textV (l : List UInt8) : Val := ⟨3,0,qah l⟩
def qaa : Val := ⟨0,0,ByteArray.empty⟩
def qdl (s : List UInt8) : Val :=
 match parseIntB 64 s with
 | .ok n => ⟨1,n,ByteArray.empty⟩
 | _ => if s = trueL ∨ s = falseL then ⟨2,if s = trueL then 1 else 0,ByteArray.empty⟩ else if 1 < s.length ∧ s.head? = some 39 then textV (unqG hexP (qcv s)) else qaa
def qci (s : List UInt8) : Option Val := if qbs (qdl s) = s then some (qdl s) else none
def qeq (s : List UInt8) : List Val := [qaa,⟨2,0,ByteArray.empty⟩,⟨2,1,ByteArray.empty⟩,⟨1,wholeR s,ByteArray.empty⟩,⟨3,0,if 1 < s.length then qah (unqG hexR (qcv s)) else ByteArray.empty⟩]
def readR (s : List UInt8) : Option Val := (qeq s).find? fun x => decide (qbs x = s ∧ s ≠ [])
def qdr (x : Val) : Prop := -9223372036854775808 ≤ x.n ∧ x.n ≤ 9223372036854775807
theorem str_empty {t : ByteArray} (h : (str t).isEmpty = true) : t = ByteArray.empty := by
 rw [← str_data] at h
 cases t
 simp only [List.isEmpty_iff] at h
 congr 1
 exact Array.toList_eq_nil_iff.1 h
theorem valid_cases {x : Val} (h : qbt x = true) : x = qaa ∨ (x.k = 1 ∧ x.t = ByteArray.empty) ∨ x = ⟨2,0,ByteArray.empty⟩ ∨ x = ⟨2,1,ByteArray.empty⟩ ∨ (x = textV x.t.data.toList ∧ x.t.size ≤ 60) := by
 obtain ⟨k,n,t⟩ := x
 unfold qbt at h
 simp only at h
 split at h
 ·rename_i hk
  simp only [Bool.and_eq_true,decide_eq_true_eq] at h
  exact .inl (by rw [hk,h.1,str_empty h.2]; rfl)
 split at h
 ·rename_i hk
  exact .inr (.inl ⟨hk,str_empty h⟩)
 split at h
 ·rename_i hk
  simp only [Bool.and_eq_true,Bool.or_eq_true,decide_eq_true_eq] at h
  rcases h.2 with h2 | h2
  ·exact .inr (.inr (.inl (by rw [hk,h2,str_empty h.1])))
  ·exact .inr (.inr (.inr (.inl (by rw [hk,h2,str_empty h.1]))))
 split at h
 ·rename_i hk
  simp only [Bool.and_eq_true,decide_eq_true_eq] at h
  exact .inr (.inr (.inr (.inr ⟨by unfold textV; rw [hk,h.1,strB_data],h.2⟩)))
 ·cases h
theorem show_int {x : Val} (h : qbt x = true) (hk : x.k = 1) : qbs x = itoa x.n := by unfold qbs; rw [if_pos h,if_pos hk]
theorem show_text {x : Val} (h : qbt x = true) (hk : x.k = 3) : qbs x = qdo x.t.data.toList := by unfold qbs; rw [if_pos h,if_neg (by omega),if_neg (by omega),if_pos hk]
theorem guess_show {x : Val} (h : qbt x = true) (ho : qdr x) : qdl (qbs x) = x := by
 rcases valid_cases h with rfl | ⟨hk,ht⟩ | rfl | rfl | ⟨hx,ht⟩
 ·have e : qbs qaa = [110,117,108,108] := by decide +kernel
  rw [e]
  unfold qdl
  rw [parse_bad 110 _ (by decide) (by decide) (by decide)]
  rfl
 ·rw [show_int h hk]
  unfold qdl
  rw [parse_itoa _ ho.1 ho.2]
  obtain ⟨k,n,t⟩ := x
  simp only at hk ht ⊢
  rw [hk,ht]
 ·have e : qbs ⟨2,0,ByteArray.empty⟩ = falseL := by decide +kernel
  rw [e]
  unfold qdl
  rw [show parseIntB 64 falseL = NumEnd.syntax from parse_bad 102 _ (by decide) (by decide) (by decide)]
  rfl
 ·have e : qbs ⟨2,1,ByteArray.empty⟩ = trueL := by decide +kernel
  rw [e]
  unfold qdl
  rw [show parseIntB 64 trueL = NumEnd.syntax from parse_bad 116 _ (by decide) (by decide) (by decide)]
  rfl
 ·have hk : x.k = 3 := by rw [hx]; rfl
  rw [show_text h hk]
  unfold qdl
  have e : parseIntB 64 (qdo x.t.data.toList) = NumEnd.syntax := parse_bad 39 _ (by decide) (by decide) (by decide)
  rw [e]
  simp only
  rw [if_neg (by unfold qdo trueL falseL; simp),if_pos ⟨by unfold qdo; simp,rfl⟩,inner_quote,unqG_quote hexP hexP_digit]
  exact hx.symm
theorem tries_show {x : Val} (h : qbt x = true) (ho : qdr x) : x ∈ qeq (qbs x) := by
 rcases valid_cases h with rfl | ⟨hk,ht⟩ | rfl | rfl | ⟨hx,ht⟩
 ·exact List.mem_cons_self
 ·rw [show_int h hk]
  unfold qeq
  rw [wholeR_itoa _ ho.1 ho.2]
  obtain ⟨k,n,t⟩ := x
  simp only at hk ht ⊢
  rw [hk,ht]
  simp
 ·exact List.mem_cons_of_mem _ List.mem_cons_self
 ·exact List.mem_cons_of_mem _ (List.mem_cons_of_mem _ List.mem_cons_self)
 ·have hk : x.k = 3 := by rw [hx]; rfl
  rw [show_text h hk]
  unfold qeq
  rw [if_pos (show 1 < (qdo x.t.data.toList).length by unfold qdo; simp),inner_quote,unqG_quote hexR hexR_digit]
  have e : x = ⟨3,0,qah x.t.data.toList⟩ := hx
  rw [← e]
  simp
theorem show_ne {x : Val} (h : qbs x ≠ []) : qbt x = true := by
 cases hv : qbt x with
 | true => rfl
 | false => exact absurd (by unfold qbs; rw [hv]; rfl) h
theorem show_inj {x y : Val} (hx : qbt x = true) (hy : qbt y = true) (ox : qdr x) (oy : qdr y) (h : qbs x = qbs y) : x = y := by rw [← guess_show hx ox,h,guess_show hy oy]
theorem wholeF_ok (l : List UInt8) : ∀ n : Int,(-9223372036854775808 ≤ n ∧ n ≤ 9223372036854775807) → -9223372036854775808 ≤ qek n l ∧ qek n l ≤ 9223372036854775807 := by
 unfold qek
 induction l with
 | nil => intro n h; exact h
 | cons c l ih =>
   intro n h
   rw [List.foldl_cons]
   refine ih _ ?_
   split
   ·unfold wrap64; omega
   ·exact h
theorem tries_ok (s : List UInt8) : ∀ x ∈ qeq s,qdr x := by
 intro x hx
 unfold qeq at hx
 simp only [List.mem_cons,List.not_mem_nil,or_false] at hx
 have hw : -9223372036854775808 ≤ wholeR s ∧ wholeR s ≤ 9223372036854775807 := by
  unfold wholeR
  split
  ·unfold wrap64; omega
  ·exact wholeF_ok s 0 (by omega)
 unfold qdr
 rcases hx with rfl | rfl | rfl | rfl | rfl <;> simp only [qaa] <;> first | exact hw | omega
theorem guess_ok (s : List UInt8) : qdr (qdl s) := by
 unfold qdl
 split
 ·rename_i n h
  have := parseIntB_bounds h
  have e : (2 : Nat) ^ (64 - 1) = 9223372036854775808 := by decide
  rw [e] at this
  unfold qdr
  simp only
  omega
 ·split
  ·unfold qdr
   simp only
   split <;> omega
  split
  ·unfold qdr textV; simp only; omega
  ·unfold qdr qaa; simp only; omega
theorem read_same (s : List UInt8) : qci s = readR s := by
 unfold qci
 by_cases h : qbs (qdl s) = s
 ·rw [if_pos h]
  have hne : s ≠ [] := by
   intro e
   subst e
   revert h
   decide +kernel
  have hv := show_ne (x := qdl s) (by rw [h]; exact hne)
  have hm := tries_show hv (guess_ok s)
  rw [h] at hm
  unfold readR
  symm
  have hex : ∃ y,(qeq s).find? (fun x => decide (qbs x = s ∧ s ≠ [])) = some y := by
   cases hf : (qeq s).find? (fun x => decide (qbs x = s ∧ s ≠ [])) with
   | some y => exact ⟨y,rfl⟩
   | none =>
     have := List.find?_eq_none.1 hf _ hm
     exact absurd (decide_eq_true ⟨h,hne⟩) this
  obtain ⟨y,hy⟩ := hex
  rw [hy]
  have h0 : decide (qbs y = s ∧ s ≠ []) = true := List.find?_some (p := fun x => decide (qbs x = s ∧ s ≠ [])) hy
  have h1 := of_decide_eq_true h0
  have h2 := List.mem_of_find?_eq_some hy
  rw [show_inj (show_ne (by rw [h1.1]; exact hne)) hv (tries_ok s y h2) (guess_ok s) (h1.1.trans h.symm)]
 ·rw [if_neg h]
  unfold readR
  symm
  rw [List.find?_eq_none]
  intro y hy hc
  have h1 := of_decide_eq_true hc
  have hv := show_ne (x := y) (by rw [h1.1]; exact h1.2)
  have := guess_show hv (tries_ok s y hy)
  rw [h1.1] at this
  exact h (by rw [this]; exact h1.1)
end Go.Proofs.YtgajofkeidjbgaaGreatDoor
namespace Go.Proofs.YtgajofkeidjbgaaGreatDoor
set_option linter.unusedSimpArgs false
set_option linter.unusedVariables false
set_option maxHeartbeats 4000000
set_option maxRecDepth 100000
open Go.RowKit
def hexN (a : Nat) : List UInt8 → Option Nat
 | [] => some a
 | c :: r => match hexP c with
   | some d => hexN (16 * a + d) r
   | none => none
def hexW (l : List UInt8) : Option Nat := if l = [] then none else hexN 0 l
theorem low_cases : ∀ m : Fin 256,¬ (48 ≤ m.1 ∧ m.1 ≤ 57) → (97 ≤ bits BinOp.or IntKind.u8 ((m.1 : Nat) : Int) 32 ∧ bits BinOp.or IntKind.u8 ((m.1 : Nat) : Int) 32 ≤ 102 ∧ hexP (UInt8.ofNat m.1) = some ((bits BinOp.or IntKind.u8 ((m.1 : Nat) : Int) 32).toNat - 87)) ∨ (103 ≤ bits BinOp.or IntKind.u8 ((m.1 : Nat) : Int) 32 ∧ bits BinOp.or IntKind.u8 ((m.1 : Nat) : Int) 32 ≤ 122 ∧ hexP (UInt8.ofNat m.1) = none) ∨ (bits BinOp.or IntKind.u8 ((m.1 : Nat) : Int) 32 < 97 ∧ hexP (UInt8.ofNat m.1) = none) ∨ (97 ≤ bits BinOp.or IntKind.u8 ((m.1 : Nat) : Int) 32 ∧ 122 < bits BinOp.or IntKind.u8 ((m.1 : Nat) : Int) 32 ∧ hexP (UInt8.ofNat m.1) = none) := by decide +kernel
theorem hexP_lt {c : UInt8} {d : Nat} (h : hexP c = some d) : d < 16 := by
 unfold hexP at h
 split at h
 ·injection h; omega
 split at h
 ·injection h; omega
 split at h
 ·injection h; omega
 ·cases h
def synE : Value := .iface 231 (.int .i64 2)
def HexTo (w : World) (l : List UInt8) (e : Ending) (w' : World) : Prop := e = .returned (.tuple #[.int .u64 (((hexW l).getD 0 : Nat) : Int),if (hexW l).isSome = true then .nilIface else synE]) ∧ qag w w'
theorem hex_none {w w' : World} {l : List UInt8} (h : hexW l = none) (hL : qag w w') : HexTo w l (.returned (.tuple #[.int .u64 0,synE])) w' := ⟨by rw [h]; rfl,hL⟩
theorem hex_some {w w' : World} {l : List UInt8} {n : Nat} (h : hexW l = some n) (hL : qag w w') : HexTo w l (.returned (.tuple #[.int .u64 (n : Int),.nilIface])) w' := ⟨by rw [h]; rfl,hL⟩
theorem lower_m {m v : Int} (w : World) (h : v = bits BinOp.or IntKind.u8 m 32) : Calls Tryz.prog 152 #[.int .u8 m] w fun e w' => e = .returned (.int .u8 v) ∧ w' = w := by rw [h]; exact Tryz.internal_strconv_lower m w
theorem parse_hex_in (s : ByteArray) (w : World) (hs : s.size ≤ 2) : Calls Tryz.prog 145 #[.string s,.int .i64 16,.int .i64 8] w (HexTo w s.data.toList) := by
 obtain ⟨l,hl⟩ : ∃ l,l = s.data.toList := ⟨_,rfl⟩
 have hsl : l.length = s.size := by rw [hl]; rfl
 rw [← hl]
 have HLD := hid hl
 by_cases h0 : s.size = 0
 ·have hl0 : l = [] := List.eq_nil_of_length_eq_zero (by omega)
  have hs0 : s = ByteArray.empty := by
   cases s
   rename_i d
   congr 1
   exact Array.toList_eq_nil_iff.1 (by rw [← hl0,hl])
  clear hl hsl h0 hs HLD
  subst hl0 hs0
  go_enter Tryz.func145,Tryz.ntmps145
  go_wp2_with fail
  go_ret2
  exact hex_none rfl (qag.refl _)
 have hemp : s.toList.isEmpty = false := by
  rw [← decide_eq_emptyBytes]
  exact decide_eq_false (fun h => h0 (by rw [h]; rfl))
 clear hl
 go_enter Tryz.func145,Tryz.ntmps145
 go_wp2_with (refine wpList_bytes_of rfl _ 9 55 5 rfl Tryz.underlying9 Tryz.underlying55 Tryz.underlying5 s rfl ?_)
 intro c w2 hL2 hz2 hcell
 obtain ⟨B,hB⟩ : ∃ B,B = w.heap.size := ⟨_,rfl⟩
 rw [← hB] at hcell ⊢
 have HC : Hid (∀ k (hk : k < l.length),w2.cell? ⟨B,k,none⟩ = some (.int .u8 ((l[k]).toNat : Int))) := hid (by have h := HLD.out; subst h; exact hcell)
 have HL2 := hid hL2
 clear hcell hL2 hz2 hB
 obtain ⟨z,hz⟩ : ∃ z,z = s.size := ⟨_,rfl⟩
 rw [← hz] at hs h0 hsl ⊢
 clear hz
 have HSL := hid hsl
 clear hsl hemp
 go_wp2_with fail
 obtain ⟨R1,hR1⟩ : ∃ RR_ : (Nat → Value) → World → Prop,RR_ = (fun us wx => ∃ (k a : Nat) (i : Int),k ≤ l.length ∧ us 101 = .int .i64 k ∧ us 12 = .bool false ∧ us 13 = .int .u64 i ∧ wx = w2 ∧ Hid (i = (a : Int) ∧ a < 16 ^ k ∧ hexW l = hexN a (l.drop k))) := ⟨_,rfl⟩
 obtain ⟨mu1,hmu1⟩ : ∃ mu : (Nat → Value) → World → Nat,mu = (fun us _ => l.length - (intOf (us 101)).toNat) := ⟨_,rfl⟩
 have HR1 := hid hR1; have Hmu1 := hid hmu1; clear hR1 hmu1
 refine qal [ff,ff,ff,ff,ff,ff,true,true,ff,ff,ff,ff,true,true,ff,true,true,true,ff,ff,ff,ff,ff,ff,ff,ff,ff,ff,ff,ff,ff,ff,ff,ff,ff,ff,ff,ff,ff,ff,ff,ff,ff,ff,ff,ff,ff,ff,ff,ff,ff,ff,ff,ff,ff,ff,ff,ff,ff,ff,ff,ff,ff,ff,ff,ff,ff,ff,ff,ff,ff,ff,ff,ff,ff,ff,ff,ff,ff,ff,ff,ff,ff,ff,ff,ff,ff,ff,ff,ff,ff,ff,ff,ff,ff,ff,ff,ff,ff,ff,ff,true,true,true,true,true,true,true,true,true,true,true,true,true,true,true,true,true,true,true,true,true,true,true,true,true,true,true,true,true,true,true,true,true,true,true,true,true,true,true,true,true,true,true,true,true,true,true,true,true,true,true,true,true,true,true,true,true,true,true,true,true,true,true] R1 _ mu1 HR1.out ?_ ?_
 ·exact ⟨0,0,0,Nat.zero_le _,rfl,rfl,rfl,rfl,hid ⟨rfl,by decide,by unfold hexW; rw [if_neg (fun e => h0 (by rw [← HSL.out,e]; rfl))]; rfl⟩⟩
 intro us1 wx hrel
 obtain ⟨k,a,i,hk,h101,h12,h13,rfl,hI⟩ := hrel
 simp only [qao,Nat.reduceAdd,h101,h12,h13]
 have Hh101 := hid h101; clear h101
 have Hh12 := hid h12; clear h12
 have Hh13 := hid h13; clear h13
 have HI := hid hI.out
 by_cases hlt : k < z
 ·have q0 := HC.out k (by have := HSL.out; omega)
  have hin : k < l.length := by have := HSL.out; omega
  have HX : Hid (hexN a (l.drop k) = match hexP (l[k]'hin) with | some d => hexN (16 * a + d) (l.drop (k + 1)) | none => none) := hid (by rw [List.drop_eq_getElem_cons hin]; rfl)
  generalize l[k]'hin = ch at *
  obtain ⟨m,hm⟩ : ∃ m,m = ch.toNat := ⟨_,rfl⟩
  have hm8 : m < 256 := by rw [hm]; exact ch.toNat_lt
  have HM := hid hm
  rw [← hm] at q0
  clear hm
  have hi0 : 0 ≤ i := by have := hI.out.1; omega
  have hi1 : i ≤ 15 := by
   have h1 := hI.out.1
   have h2 := hI.out.2.1
   have h3 : (16 : Nat) ^ k ≤ 16 ^ 1 := Nat.pow_le_pow_right (by omega) (by omega)
   omega
  clear hI
  have hkk : (0 : Int) ≤ k := by omega
  have HK : Hid (16 ^ (k + 1) = 16 ^ k * 16) := hid (Nat.pow_succ _ _)
  have hch : ch = UInt8.ofNat m := by rw [HM.out]; exact (UInt8.ofNat_toNat).symm
  have HCH := hid hch
  clear hch
  by_cases hd : 48 ≤ m ∧ m ≤ 57
  ·have HP : Hid (hexP ch = some (m - 48)) := hid (by unfold hexP; rw [← HM.out,if_pos hd])
   obtain ⟨hd0,hd1⟩ := hd
   go_wp2_with fail
   refine Round.mk' HR1.out Hmu1.out rfl ?_ ?_
   ·refine ⟨k + 1,16 * a + (m - 48),i * 16 + ((m : Int) - 48),by omega,by go_num,rfl,rfl,rfl,hid ⟨?_,?_,?_⟩⟩
    ·have := HI.out.1; omega
    ·have := HI.out.2.1; have := HK.out; omega
    ·rw [HI.out.2.2,HX.out,HP.out]
   ·rw [Hh101.out]; simp [intOf,qas]; omega
  ·obtain ⟨v,hv⟩ : ∃ v,v = bits BinOp.or IntKind.u8 (m : Int) 32 := ⟨_,rfl⟩
   have HV := hid hv
   have hcs := low_cases ⟨m,hm8⟩ hd
   simp only [← hv] at hcs
   clear hv
   by_cases h95 : (m : Int) = 95
   ·have h95' : m = 95 := by omega
    have HP : Hid (hexW l = none) := hid (by rw [HI.out.2.2,HX.out,HCH.out,h95']; rfl)
    subst h95'
    have HV1 : Hid ((127 : Int) = bits BinOp.or IntKind.u8 ((95 : Nat) : Int) 32) := hid (by decide)
    clear hcs h95 HV HM
    go_wp2_with fail
    refine (lower_m _ HV1.out).mono ?_
    rintro e w3 ⟨rfl,rfl⟩
    go_wp2_with fail
    refine (lower_m _ HV1.out).mono ?_
    rintro e w3 ⟨rfl,rfl⟩
    go_wp2_with fail
    go_ret2
    exact hex_none HP.out HL2.out
   rcases hcs with ⟨hv0,hv1,hp⟩ | ⟨hv0,hv1,hp⟩ | ⟨hv0,hp⟩ | ⟨hv0,hv1,hp⟩
   ·have HP : Hid (hexP ch = some (v.toNat - 87)) := hid (by rw [HCH.out]; exact hp)
    clear hp
    rcases (show (m : Int) < 48 ∨ 57 < (m : Int) by omega) with h4 | h4
    all_goals
     go_wp2_with fail
     refine (lower_m _ HV.out).mono ?_
     rintro e w3 ⟨rfl,rfl⟩
     go_wp2_with fail
     refine (lower_m _ HV.out).mono ?_
     rintro e w3 ⟨rfl,rfl⟩
     go_wp2_with fail
     refine (lower_m _ HV.out).mono ?_
     rintro e w3 ⟨rfl,rfl⟩
     go_wp2_with fail
     refine Round.mk' HR1.out Hmu1.out rfl ?_ ?_
     ·refine ⟨k + 1,16 * a + (v.toNat - 87),i * 16 + (v - 97 + 10),by omega,by go_num,rfl,rfl,rfl,hid ⟨?_,?_,?_⟩⟩
      ·have := HI.out.1; omega
      ·have := HI.out.2.1; have := HK.out; omega
      ·rw [HI.out.2.2,HX.out,HP.out]
     ·rw [Hh101.out]; simp [intOf,qas]; omega
   ·have HP : Hid (hexW l = none) := hid (by rw [HI.out.2.2,HX.out,HCH.out,hp])
    clear hp
    rcases (show (m : Int) < 48 ∨ 57 < (m : Int) by omega) with h4 | h4
    all_goals
     go_wp2_with fail
     refine (lower_m _ HV.out).mono ?_
     rintro e w3 ⟨rfl,rfl⟩
     go_wp2_with fail
     refine (lower_m _ HV.out).mono ?_
     rintro e w3 ⟨rfl,rfl⟩
     go_wp2_with fail
     refine (lower_m _ HV.out).mono ?_
     rintro e w3 ⟨rfl,rfl⟩
     go_wp2_with fail
     go_ret2
     exact hex_none HP.out HL2.out
   ·have HP : Hid (hexW l = none) := hid (by rw [HI.out.2.2,HX.out,HCH.out,hp])
    clear hp
    rcases (show (m : Int) < 48 ∨ 57 < (m : Int) by omega) with h4 | h4
    all_goals
     go_wp2_with fail
     refine (lower_m _ HV.out).mono ?_
     rintro e w3 ⟨rfl,rfl⟩
     go_wp2_with fail
     go_ret2
     exact hex_none HP.out HL2.out
   ·have HP : Hid (hexW l = none) := hid (by rw [HI.out.2.2,HX.out,HCH.out,hp])
    clear hp
    rcases (show (m : Int) < 48 ∨ 57 < (m : Int) by omega) with h4 | h4
    all_goals
     go_wp2_with fail
     refine (lower_m _ HV.out).mono ?_
     rintro e w3 ⟨rfl,rfl⟩
     go_wp2_with fail
     refine (lower_m _ HV.out).mono ?_
     rintro e w3 ⟨rfl,rfl⟩
     go_wp2_with fail
     go_ret2
     exact hex_none HP.out HL2.out
 ·obtain rfl : k = z := by have := HSL.out; omega
  have HL : Hid (l.drop k = []) := hid (List.drop_eq_nil_of_le (Nat.le_of_eq HSL.out))
  go_wp2_with fail
  go_ret2
  obtain ⟨rfl,h2,h3⟩ := HI.out
  exact hex_some (by rw [h3,HL.out]; rfl) HL2.out
end Go.Proofs.YtgajofkeidjbgaaGreatDoor
