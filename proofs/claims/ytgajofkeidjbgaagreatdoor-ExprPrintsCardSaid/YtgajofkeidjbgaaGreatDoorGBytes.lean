/-
  PROVED HERE: what it is that memory holds bytes; strings of bytes; slices of slices; copying nothing. No program of its own.
  PROVED HERE: numbers, values, rows as bytes, in plain Lean. No program of its own.
  PROVED HERE: bytes that are put behind a slice of one's own, one after the other. No program of its own.
  PROVED HERE: append of elements that stand in a block of their own; what it leaves as it was. No program of its own.
  PROVED HERE: '[]byte(s)' in a walk; what is written of a value, in plain Lean. No program of its own.
  PROVED HERE: what the table of types says of a byte.
-/
import Derived.Test.YtgajofkeidjbgaaGreatDoorGData
import Derived.Laws.BytesArg
import Derived.Laws.Slices
import Derived.Shelf.Bytes.SlSmallAll
import Derived.Lib.SlicesS
import Derived.Laws.BitsLemmas
import Derived.Laws.Bits64
import Derived.Lib.AppendStr
import Derived.OwnWalk
import Derived.Laws.IdiomStrings
import Derived.Lib.ItoaNum
import Derived.Lib.AppendIntMem
import Derived.Test.YtgajofkeidjbgaaGreatDoorRows
namespace Go.Proofs.YtgajofkeidjbgaaGreatDoor
set_option linter.unusedSimpArgs false
set_option linter.unusedVariables false
open Go Go.RowKit Go.Deep

def ByteAt (w : World) (b o : Nat) (x : UInt8) : Prop := w.cell? ⟨b, o, none⟩ = some (.int .u8 (x.toNat : Int))
theorem ByteAt.kept {S : Nat → Prop} {w w' : World} {b o : Nat} {x : UInt8} (h : ByteAt w b o x) (hs : S b) (k : Keeps S w w') : ByteAt w' b o x := k.cell (p := ⟨b, o, none⟩) hs h
abbrev BytesIn (S : Nat → Prop) (w : World) (v : Value) (l : List UInt8) : Prop := SliceOf S ByteAt 1 w v l
abbrev IsBytes (w : World) (v : Value) (l : List UInt8) : Prop := BytesIn All w v l
theorem SliceOf.bytes_kept {S S' : Nat → Prop} {w w' : World} {v : Value} {l : List UInt8} (h : BytesIn S w v l) (k : Keeps S' w w') (hs : ∀ b, S b → S' b) : BytesIn S w' v l := h.map fun _ _ _ hb hx => ⟨hb, hx.kept (hs _ hb) k⟩
theorem SliceOf.bytes_later {S : Nat → Prop} {w w' : World} {v : Value} {l : List UInt8} (h : BytesIn S w v l) (k : Later w w') : BytesIn S w' v l := h.bytes_kept (k.keeps S) fun _ h => h
theorem SliceOf.bytes_mono {S S' : Nat → Prop} {w : World} {v : Value} {l : List UInt8} (h : BytesIn S w v l) (hs : ∀ b, S b → S' b) : BytesIn S' w v l := h.map fun _ _ _ hb hx => ⟨hs _ hb, hx⟩
theorem SliceOf.blt {S : Nat → Prop} {w : World} {v : Value} {l : List UInt8} (h : BytesIn S w v l) : BytesIn (fun b => b < w.heap.size) w v l := h.map fun b o x _ hx => ⟨by have := cell_lt hx; exact this, hx⟩
theorem SliceOf.all {α : Type} {S : Nat → Prop} {at_ : World → Nat → Nat → α → Prop} {size : Nat} {w : World} {v : Value} {l : List α} (h : SliceOf S at_ size w v l) : SliceOf All at_ size w v l := h.map fun _ _ _ _ hx => ⟨trivial, hx⟩

/-- the value that 's[lo:hi]' is. -/
theorem SliceOf.sub {α : Type} {S : Nat → Prop} {at_ : World → Nat → Nat → α → Prop} {size : Nat} {w : World} {a : Option Addr} {n c : Nat} {l : List α} (h : SliceOf S at_ size w (.slice a n c) l) (lo hi : Nat) (h1 : lo ≤ hi) (h2 : hi ≤ l.length) :
    SliceOf S at_ size w (sliced a lo hi c size) ((l.take hi).drop lo) := by
  obtain ⟨a', c', hv, hl, hc, hn, he⟩ := h
  simp only [Value.slice.injEq] at hv
  obtain ⟨rfl, rfl, rfl⟩ := hv
  have hlen : ((l.take hi).drop lo).length = hi - lo := by rw [List.length_drop, List.length_take]; omega
  refine ⟨if c = lo then a else a.map (·.add (lo * size)), c - lo, by rw [hlen]; rfl, by omega, by omega, fun h0 => ?_, fun i hi' => ?_⟩
  · split at h0
    · omega
    · cases a with
      | none => have := hn rfl; omega
      | some a => simp at h0
  · rw [hlen] at hi'
    obtain ⟨b, o, rfl, hS, hx⟩ := he (lo + i) (by omega)
    refine ⟨b, o + lo * size, ?_, hS, ?_⟩
    · rw [if_neg (by omega)]
      simp only [Option.map_some]
      rw [add_none rfl]
    · have e : ((l.take hi).drop lo)[i]'(by rw [hlen]; exact hi') = l[lo + i]'(by omega) := by simp
      rw [e]
      have e2 : o + lo * size + i * size = o + (lo + i) * size := by rw [Nat.add_mul]; omega
      rw [e2]
      exact hx

theorem byte_cell {S : Nat → Prop} {w : World} {a : Option Addr} {l : List UInt8} (h : Elems S ByteAt 1 w a l) {k : Nat} (hk : k < l.length) : ∃ b o, a = some ⟨b, o, none⟩ ∧ S b ∧ w.cell? ⟨b, o + k, none⟩ = some (.int .u8 (l[k].toNat : Int)) := by
  obtain ⟨b, o, ha, hs, hx⟩ := h k hk
  have hx' : w.cell? ⟨b, o + k * 1, none⟩ = some (.int .u8 (l[k].toNat : Int)) := hx
  rw [Nat.mul_one] at hx'
  exact ⟨b, o, ha, hs, hx'⟩
section
variable {P : Program} {S : Nat → Prop} {w : World} {v : Value} {l : List UInt8}
def strB (l : List UInt8) : ByteArray := ⟨l.toArray⟩
theorem strB_size (l : List UInt8) : (strB l).size = l.length := by simp [strB, ByteArray.size]
theorem strB_inj {l m : List UInt8} (h : strB l = strB m) : l = m := by
  have := congrArg (fun s : ByteArray => s.data.toList) h
  simpa [strB] using this
theorem strB_data (s : ByteArray) : strB s.data.toList = s := by cases s; rfl
theorem strB_nums (l : List UInt8) : strOfNums (l.map fun x => (x.toNat : Int)) = strB l := by
  unfold strOfNums strB
  simp only [List.map_map]
  congr 1
  congr 1
  conv => rhs; rw [← List.map_id l]
  exact List.map_congr_left fun x _ => by simp
theorem SliceOf.string {src e dst : TypeId} (h : BytesIn S w v l) (hs : P.underlying src = some (.slice e)) (he : P.underlying e = some (.int .u8)) (hd : P.underlying dst = some .string) :
    (convert src dst v).run P w = .ok (.string (strB l)) w := by
  obtain ⟨a, c, rfl, hl, hc, hn, hx⟩ := h
  by_cases h0 : l = []
  · subst h0
    have := run_convert_bytes_zero (P := P) w src e hs he a c dst hd
    exact this
  · have hpos : 0 < l.length := List.length_pos_iff.2 h0
    obtain ⟨b, o, rfl, _, _⟩ := hx 0 hpos
    have := run_convert_bytes_arg (P := P) w src e hs he b o l.length c (l.map fun x => (x.toNat : Int)) (by simp) (fun i hi => by
      obtain ⟨b', o', hb, _, hat⟩ := hx i hi
      simp only [Option.some.injEq, Addr.mk.injEq, and_true] at hb
      obtain ⟨rfl, rfl⟩ := hb
      have hat' : w.cell? ⟨b, o + i * 1, none⟩ = some (.int .u8 (l[i].toNat : Int)) := hat
      rw [Nat.mul_one] at hat'
      rw [hat']
      simp [List.getD, hi]) dst hd
    rw [this, strB_nums]

theorem str_eq {l m : List UInt8} (h : l = m) : ((strB l).toList == (strB m).toList) = true := by rw [h]; exact beq_self_eq_true _
theorem str_ne {l m : List UInt8} (h : l ≠ m) : ((strB l).toList == (strB m).toList) = false := (Lib.bytes_beq_false_iff _ _).2 fun e => h (strB_inj e)
/-- the cells of bytes. -/
def byteCells (l : List UInt8) : List Value := l.map fun x => .int .u8 (x.toNat : Int)
theorem byteCells_length (l : List UInt8) : (byteCells l).length = l.length := by simp [byteCells]
theorem byteCells_one (l : List UInt8) : ∀ u ∈ byteCells l, u.oneCell' = true := fun u hu => by
  obtain ⟨x, _, rfl⟩ := List.mem_map.1 hu; rfl
theorem owned_bytes {base : Nat} {e : TypeId} {n : Nat} (h : w.ownsRow base e 1 v n (byteCells l)) : BytesIn (fun b => base ≤ b) w v l := by
  obtain ⟨hn, hv⟩ := h
  rw [byteCells_length, Nat.mul_one] at hn
  subst hn
  rcases hv with ⟨rfl, h0⟩ | ⟨g, cap, cur, rfl, hb, hg, hl, hm, hc, ht⟩
  · have : l = [] := List.eq_nil_of_length_eq_zero h0
    subst this
    exact ⟨none, 0, rfl, Nat.le_refl _, by unfold maxLen; omega, fun _ => rfl, fun i hi => by cases hi⟩
  · refine ⟨_, cap, rfl, hl, hm, fun h => (by cases h), fun i hi => ⟨g, 0, rfl, hb, ?_⟩⟩
    refine cell_obj hg ?_
    have : (byteCells l)[i]? = some (.int .u8 (l[i].toNat : Int)) := by simp [byteCells, hi]
    rw [← ht, List.getElem?_take] at this
    split at this
    · simpa using this
    · cases this
theorem SliceOf.news (h : BytesIn S w v l) {a : Option Addr} {n c : Nat} (hv : v = .slice a n c) {ad : Addr} (ha : a = some ad) : ∀ j u, (byteCells l)[j]? = some u → w.cell? (ad.add j) = some u := by
  obtain ⟨a', c', hv', _, _, _, hx⟩ := h
  subst hv
  simp only [Value.slice.injEq] at hv'
  obtain ⟨rfl, -, -⟩ := hv'
  intro j u hu
  have hj : j < l.length := by have := (List.getElem?_eq_some_iff.1 hu).1; rwa [byteCells_length] at this
  obtain ⟨b, o, hb, _, hat⟩ := hx j hj
  have e : a = some ad := ha
  rw [hb] at e
  simp only [Option.some.injEq] at e
  subst e
  rw [add_none rfl]
  have hat' : w.cell? ⟨b, o + j * 1, none⟩ = some (.int .u8 (l[j].toNat : Int)) := hat
  rw [Nat.mul_one] at hat'
  rw [hat']
  simp [byteCells, hj] at hu
  rw [hu]

theorem bytes_obj {g n c : Nat} {t : TypeId} {f : Nat × Nat} {l : List UInt8} (h : w.heap[g]? = some (.cells (byteCells l).toArray t f)) (hn : l.length = n) (hc : n ≤ c) (hm : c ≤ maxLen) (hS : S g) : BytesIn S w (.slice (some ⟨g, 0, none⟩) n c) l := by
  subst hn
  refine ⟨_, c, rfl, hc, hm, fun h => (by cases h), fun i hi => ⟨g, 0, rfl, hS, ?_⟩⟩
  refine cell_obj h ?_
  simp [byteCells, hi]
theorem bytes_nil (S : Nat → Prop) (w : World) : BytesIn S w (.slice none 0 0) [] := ⟨none, 0, rfl, Nat.le_refl _, by unfold maxLen; omega, fun _ => rfl, fun i hi => by cases hi⟩
theorem bytes_empty (S : Nat → Prop) (w : World) (a : Option Addr) (c : Nat) (hc : c ≤ maxLen) (ha : a = none → c = 0) : BytesIn S w (.slice a 0 c) [] := ⟨a, c, rfl, Nat.zero_le _, hc, ha, fun i hi => by cases hi⟩
theorem bytes_from {b o n c k : Nat} (h : BytesIn S w (.slice (some ⟨b, o, none⟩) n c) l) (hk : k < c) (hl : k ≤ l.length) : BytesIn S w (.slice (some ⟨b, o + k, none⟩) (n - k) (c - k)) (l.drop k) := by
  have := h.sub k l.length hl (Nat.le_refl _)
  obtain ⟨a', c', hv, -⟩ := h
  simp only [Value.slice.injEq] at hv
  obtain ⟨-, rfl, rfl⟩ := hv
  rw [List.take_length] at this
  unfold sliced at this
  rw [if_neg (by omega)] at this
  simp only [Option.map_some] at this
  rw [add_none rfl, Nat.mul_one] at this
  exact this
theorem bytes_mid {b o n c lo hi : Nat} (h : BytesIn S w (.slice (some ⟨b, o, none⟩) n c) l) (hk : lo < c) (h1 : lo ≤ hi) (h2 : hi ≤ l.length) : BytesIn S w (.slice (some ⟨b, o + lo, none⟩) (hi - lo) (c - lo)) ((l.take hi).drop lo) := by
  have := h.sub lo hi h1 h2
  unfold sliced at this
  rw [if_neg (by omega)] at this
  simp only [Option.map_some] at this
  rw [add_none rfl, Nat.mul_one] at this
  exact this
theorem bytes_none {a : Option Addr} {n c lo hi : Nat} (h : BytesIn S w (.slice a n c) l) (hk : lo = c) (h1 : lo ≤ hi) (h2 : hi ≤ l.length) : BytesIn S w (.slice a (hi - lo) (c - lo)) ((l.take hi).drop lo) := by
  have := h.sub lo hi h1 h2
  unfold sliced at this
  rw [if_pos hk.symm] at this
  exact this
end

section
variable {H : Type} {P : Program} {enc : TypeId × Value → H} {w : World} {base : Nat} {spare : Nat → Bool} {held : Bool}
/-- bytes that came in. -/
theorem open_bytes {tS e : TypeId} {fuel : Nat} {cs : List Value} {d : DataW H} {pl : List MemPlace} (ht : P.underlying tS = some (.slice e)) (he : P.underlying e = some (.int .u8)) (hC : P.cellsOf e = 1)
    (h : DataW.trod enc P w base spare held fuel tS cs = some (d, pl)) (hf : Fits P tS d) : ∃ v l, cs = [v] ∧ IsBytes w v l ∧ l.length * P.bytesOf e ≤ reachBytes := by
  obtain ⟨v, l, h1, h2, _, h4⟩ := open_list (At := ByteAt) (Good := fun _ => True) (size := 1) ht hC (by decide) (fun n cs' d pl ht' hf _ => by
    obtain ⟨k, q0, _, hw⟩ := DataW.trod_int he (show DataW.trod enc P w base spare held n e [cs'[0]'(by omega)] = some (d, pl) by
      rw [show [cs'[0]'(by omega)] = cs' from by
        obtain ⟨c0, rfl⟩ := list_one' ‹cs'.length = 1›
        rfl]
      exact ht')
    have hk : 0 ≤ k ∧ k < 256 := by
      simp [Lit.wf, IntKind.min, IntKind.max, IntKind.bits, IntKind.signed] at hw
      omega
    refine ⟨UInt8.ofNat k.toNat, trivial, fun b o hc => ?_⟩
    obtain ⟨c0, rfl⟩ := list_one' ‹cs'.length = 1›
    have := hc 0 c0 rfl
    simp only [List.getElem_cons_zero, List.cons.injEq, and_true] at q0
    subst q0
    unfold ByteAt
    rw [Nat.add_zero] at this
    rw [this]
    congr 2
    rw [UInt8.toNat_ofNat']
    omega) h hf
  exact ⟨v, l, h1, h2, h4⟩
end
end Go.Proofs.YtgajofkeidjbgaaGreatDoor
namespace Go.Proofs.YtgajofkeidjbgaaGreatDoor
set_option linter.unusedSimpArgs false
set_option linter.unusedVariables false
open Go Go.RowKit

/-- seven bits a byte, the low ones first. -/
def encN : Nat → Nat → List UInt8
  | 0, u => [UInt8.ofNat u]
  | k + 1, u => if u < 128 then [UInt8.ofNat u] else UInt8.ofNat (u % 128 + 128) :: encN k (u / 128)
theorem encN_stable : ∀ (k u : Nat), u < 128 ^ (k + 1) → encN k u = encN (k + 1) u
  | 0, u, h => by
    have h' : u < 128 := by simpa using h
    simp [encN, h']
  | k + 1, u, h => by
    by_cases hu : u < 128
    · simp [encN, hu]
    · have h' : u / 128 < 128 ^ (k + 1) := Nat.div_lt_of_lt_mul (by rw [Nat.pow_succ] at h; omega)
      have ih := encN_stable k (u / 128) h'
      rw [encN, encN, if_neg hu, if_neg hu, ih]
def encU (u : Nat) : List UInt8 := encN 10 u
theorem encU_lt {u : Nat} (h : u < 128) : encU u = [UInt8.ofNat u] := by rw [encU, encN, if_pos h]
theorem encU_ge {u : Nat} (h : ¬ u < 128) (h64 : u < 2 ^ 64) : encU u = UInt8.ofNat (u % 128 + 128) :: encU (u / 128) := by
  have e : encN 9 (u / 128) = encN 10 (u / 128) := encN_stable 9 _ (by omega)
  rw [encU, encN, if_neg h, e]
  rfl
theorem encN_length : ∀ (k u : Nat), (encN k u).length ≤ k + 1
  | 0, u => by simp [encN]
  | k + 1, u => by
    rw [encN]
    split
    · simp
    · have := encN_length k (u / 128)
      simp only [List.length_cons]; omega
theorem encU_length (u : Nat) : (encU u).length ≤ 11 := encN_length 10 u
/-- a number with its sign in the lowest bit. -/
def zz (n : Int) : Nat := if 0 ≤ n then (2 * n).toNat else (-2 * n - 1).toNat
def encInt (n : Int) : List UInt8 := encU (zz n)
theorem encInt_length (n : Int) : (encInt n).length ≤ 11 := encU_length _
theorem zz_lt {n : Int} (h1 : -9223372036854775808 ≤ n) (h2 : n ≤ 9223372036854775807) : zz n < 2 ^ 64 := by
  unfold zz; split <;> omega
def encText (s : ByteArray) : List UInt8 := encInt s.size ++ s.data.toList
def encVal (x : Val) : List UInt8 :=
  UInt8.ofNat (x.k % 256).toNat :: (if x.k = 1 ∨ x.k = 2 then encInt x.n else if x.k = 3 then encText x.t else [])
def encVals (l : List Val) : List UInt8 := l.flatMap encVal
def encRow (r : Row) : List UInt8 := encInt r.time ++ encInt r.vals.length ++ encVals r.vals
def encRowList (l : List Row) : List UInt8 := l.flatMap encRow
def encRows (l : List Row) : List UInt8 := encInt l.length ++ encRowList l
theorem encVals_take {l : List Val} {k : Nat} (h : k < l.length) : encVals (l.take (k + 1)) = encVals (l.take k) ++ encVal l[k] := by
  rw [List.take_succ_eq_append_getElem h, encVals, List.flatMap_append]; simp [encVals]
theorem encRowList_take {l : List Row} {k : Nat} (h : k < l.length) : encRowList (l.take (k + 1)) = encRowList (l.take k) ++ encRow l[k] := by
  rw [List.take_succ_eq_append_getElem h, encRowList, List.flatMap_append]; simp [encRowList]
theorem byteCells_append (l m : List UInt8) : byteCells (l ++ m) = byteCells l ++ byteCells m := by simp [byteCells]

theorem bits_xor_u64 (a b : Nat) (ha : a < 2 ^ 64) (hb : b < 2 ^ 64) : bits .xor .u64 a b = ((a ^^^ b : Nat) : Int) := bits_xor_u64_nat a b ha hb
theorem xor_ones (a : Nat) (h : a < 2 ^ 64) : a ^^^ (2 ^ 64 - 1) = 2 ^ 64 - 1 - a := by
  have h1 := congrArg BitVec.toNat (BitVec.xor_allOnes (x := BitVec.ofNat 64 a))
  rw [BitVec.toNat_xor, BitVec.toNat_not, BitVec.toNat_ofNat, BitVec.toNat_allOnes, Nat.mod_eq_of_lt h] at h1
  exact h1
/-- bits of one byte. -/
theorem or128 (u : Nat) : bits .or .u8 (IntKind.u8.wrap (u : Int)) 128 = ((UInt8.ofNat (u % 128 + 128)).toNat : Int) := by
  have hw : IntKind.u8.wrap (u : Int) = ((u % 256 : Nat) : Int) := by rw [IntKind.wrap_u8]; omega
  rw [hw]
  have h := (bits_nat .u8 8 (by decide) wraps_u8 (u % 256) 128 (by omega) (by decide)).2
  have e : ((128 : Nat) : Int) = 128 := rfl
  rw [e] at h
  rw [h]
  have hd : ∀ x : Fin 256, x.val ||| 128 = x.val % 128 + 128 := by decide +kernel
  have hd' := hd ⟨u % 256, by omega⟩
  simp only at hd'
  rw [hd', UInt8.toNat_ofNat']
  omega
/-- what the program's first step makes of a number. -/
theorem zz_eq_pos {n : Int} (h0 : 0 ≤ n) (h2 : n ≤ 9223372036854775807) : (zz n : Int) = 2 * n := by unfold zz; rw [if_pos h0]; omega
theorem zz_eq_neg {n : Int} (h0 : n < 0) : (zz n : Int) = -2 * n - 1 := by unfold zz; rw [if_neg (by omega)]; omega
theorem zz_walk {n : Int} (h1 : -9223372036854775808 ≤ n) (h2 : n ≤ 9223372036854775807) :
    bits .xor .u64 (IntKind.u64.wrap (IntKind.u64.wrap n * 2)) (IntKind.u64.wrap (n / 9223372036854775808)) = (zz n : Int) := by
  simp only [IntKind.wrap_u64]
  by_cases h0 : 0 ≤ n
  · have hz := zz_eq_pos h0 h2
    have e1 : n % 18446744073709551616 * 2 % 18446744073709551616 = ((zz n : Nat) : Int) := by omega
    have e2 : n / 9223372036854775808 % 18446744073709551616 = ((0 : Nat) : Int) := by omega
    rw [e1, e2, bits_xor_u64 _ _ (zz_lt h1 h2) (by decide), Nat.xor_zero]
  · have hz := zz_eq_neg (n := n) (by omega)
    have hl := zz_lt h1 h2
    have e1 : n % 18446744073709551616 * 2 % 18446744073709551616 = ((2 ^ 64 - 1 - zz n : Nat) : Int) := by omega
    have e2 : n / 9223372036854775808 % 18446744073709551616 = ((2 ^ 64 - 1 : Nat) : Int) := by omega
    rw [e1, e2, bits_xor_u64 _ _ (by omega) (by decide), xor_ones _ (by omega)]
    omega
theorem zz_ref {n : Int} (h1 : -9223372036854775808 ≤ n) (h0 : n < 0) : bits .xor .u64 IntKind.u64.max (IntKind.u64.wrap (IntKind.u64.wrap n * 2)) = (zz n : Int) := by
  have hz := zz_eq_neg (n := n) h0
  have hl := zz_lt h1 (by omega)
  have em : IntKind.u64.max = ((2 ^ 64 - 1 : Nat) : Int) := by decide
  have e1 : IntKind.u64.wrap (IntKind.u64.wrap n * 2) = ((2 ^ 64 - 1 - zz n : Nat) : Int) := by simp only [IntKind.wrap_u64]; omega
  rw [em, e1, bits_xor_u64 _ _ (by decide) (by omega), Nat.xor_comm, xor_ones _ (by omega)]
  omega
theorem encN_pos : ∀ k u, 0 < (encN k u).length
  | 0, _ => by simp [encN]
  | k + 1, u => by rw [encN]; split <;> simp
theorem encInt_pos (n : Int) : 0 < (encInt n).length := encN_pos 10 _
theorem encRows_pos (l : List Row) : 0 < (encRows l).length := by have := encInt_pos (l.length : Int); rw [encRows, List.length_append]; omega
theorem strB_append (l m : List UInt8) : strB l ++ strB m = strB (l ++ m) := by
  apply ByteArray.ext
  apply Array.ext'
  simp [strB]
end Go.Proofs.YtgajofkeidjbgaaGreatDoor
namespace Go.Proofs.YtgajofkeidjbgaaGreatDoor
set_option linter.unusedSimpArgs false
set_option linter.unusedVariables false
open Go Go.RowKit

theorem owns_block {w : World} {B : Nat} {e : TypeId} {s n : Nat} {v : Value} {xs : List Value} (h : w.ownsRow B e s v n xs) : ∀ g, v.ownBlock = some g → B ≤ g ∧ g < w.heap.size := by
  intro g hg
  rcases h.2 with ⟨rfl, _⟩ | ⟨g', cap, cur, rfl, hb, hh, _⟩
  · cases hg
  · simp only [Value.ownBlock, Option.some.injEq] at hg
    subst hg
    exact ⟨hb, (Array.getElem?_eq_some_iff.1 hh).1⟩
theorem owns_later {w w' : World} {B : Nat} {e : TypeId} {s n : Nat} {v : Value} {xs : List Value} (h : w.ownsRow B e s v n xs) (k : Later w w') : w'.ownsRow B e s v n xs :=
  ⟨h.1, h.2.imp id fun ⟨g, cp, cur, a1, a2, a3, a4⟩ => ⟨g, cp, cur, a1, a2, k.obj a3, a4⟩⟩
theorem owns_kept {S : Nat → Prop} {w w' : World} {B : Nat} {e : TypeId} {s n : Nat} {v : Value} {xs : List Value} (h : w.ownsRow B e s v n xs) (k : Keeps S w w') (hs : ∀ g, v.ownBlock = some g → S g) : w'.ownsRow B e s v n xs :=
  ⟨h.1, h.2.imp id fun ⟨g, cp, cur, a1, a2, a3, a4⟩ => ⟨g, cp, cur, a1, a2, k.obj (hs g (by rw [a1]; rfl)) a3, a4⟩⟩

theorem SliceOf.vlt {S : Nat → Prop} {w : World} {v : Value} {l : List Val} (h : ValsIn S w v l) : ValsIn (fun b => b < w.heap.size) w v l := h.map fun b o x _ hx => ⟨by have := cell_lt hx.1; exact this, hx⟩
theorem SliceOf.rlt {S : Nat → Prop} {w : World} {v : Value} {l : List Row} (h : RowsIn S w v l) : RowsIn (fun b => b < w.heap.size) w v l :=
  h.map fun b o x _ hx => ⟨by have := cell_lt hx.1; exact this, hx.1, let ⟨v, h1, h2⟩ := hx.2; ⟨v, h1, h2.vlt⟩⟩
theorem bytes_prefix {S : Nat → Prop} {w : World} {a : Option Addr} {n c : Nat} {l m : List UInt8} (h : BytesIn S w (.slice a n c) (l ++ m)) : BytesIn S w (.slice a l.length c) l := by
  obtain ⟨a', c', hv, h1, h2, h3, he⟩ := h
  simp only [Value.slice.injEq] at hv
  obtain ⟨rfl, rfl, rfl⟩ := hv
  refine ⟨a, c, rfl, by rw [List.length_append] at h1; omega, h2, h3, fun i hi => ?_⟩
  obtain ⟨b, o, ha, hs, hx⟩ := he i (by rw [List.length_append]; omega)
  rw [List.getElem_append_left hi] at hx
  exact ⟨b, o, ha, hs, hx⟩
/-- bytes that were put behind what 'v' has: 'l' is there now. -/
structure Put (e : TypeId) (w : World) (B : Nat) (v : Value) (l : List UInt8) (v' : Value) (w' : World) : Prop where
  own : w'.ownsRow B e 1 v' l.length (byteCells l)
  keep : Keeps (fun b => some b ≠ v.ownBlock) w w'
  block : v'.ownBlock = v.ownBlock ∨ ∃ g, v'.ownBlock = some g ∧ w.heap.size ≤ g
theorem Put.refl {e : TypeId} {w : World} {B : Nat} {v : Value} {l : List UInt8} (h : w.ownsRow B e 1 v l.length (byteCells l)) : Put e w B v l v w := ⟨h, Keeps.refl _ _, .inl rfl⟩
theorem Put.trans {e : TypeId} {w w1 w2 : World} {B : Nat} {v v1 v2 : Value} {l1 l2 : List UInt8} (h : Put e w B v l1 v1 w1) (k : Put e w1 B v1 l2 v2 w2) : Put e w B v l2 v2 w2 := by
  refine ⟨k.own, ⟨k.keep.os.trans h.keep.os, k.keep.tape.trans h.keep.tape, k.keep.output.trans h.keep.output, Nat.le_trans h.keep.size k.keep.size, fun b hb hs => ?_⟩, ?_⟩
  · refine (k.keep.block b (Nat.lt_of_lt_of_le hb h.keep.size) fun he => ?_).trans (h.keep.block b hb hs)
    rcases h.block with h1 | ⟨g, h1, h2⟩
    · exact hs (he.trans h1)
    · rw [h1] at he
      injection he with he
      omega
  · rcases k.block with k1 | ⟨g, k1, k2⟩
    · rw [k1]; exact h.block
    · exact .inr ⟨g, k1, Nat.le_trans h.keep.size k2⟩
/-- what a later world has put was put behind the first one. -/
theorem Put.ahead {e : TypeId} {w w0 w' : World} {B : Nat} {v v' : Value} {l : List UInt8} (k : Later w w0) (h : Put e w0 B v l v' w') : Put e w B v l v' w' :=
  ⟨h.own, ⟨h.keep.os.trans k.os, h.keep.tape.trans k.tape, h.keep.output.trans k.output, Nat.le_trans k.size h.keep.size, fun b hb hs => (h.keep.block b (Nat.lt_of_lt_of_le hb k.size) hs).trans (k.block b hb)⟩,
    h.block.imp id fun ⟨g, a, b⟩ => ⟨g, a, Nat.le_trans k.size b⟩⟩
theorem Put.behind {e : TypeId} {w w1 w' : World} {B : Nat} {v v' : Value} {l : List UInt8} (h : Put e w B v l v' w1) (k : Later w1 w') : Put e w B v l v' w' :=
  ⟨owns_later h.own k, h.keep.more k, h.block⟩
theorem Put.of_appended {e : TypeId} {w w' : World} {B n : Nat} {v v' : Value} {xs : List Value} {l : List UInt8} (h : Appended w B e 1 v n xs v' w') (hn : n = l.length) (hx : xs = byteCells l) : Put e w B v l v' w' := by
  subst hn hx
  exact ⟨h.own, Keeps.of_grown h.grown, h.block⟩
/-- nothing that was there turns, when nothing was there to be put behind. -/
theorem Put.later {e : TypeId} {w w' : World} {B : Nat} {v v' : Value} {l : List UInt8} (h : Put e w B v l v' w') (hv : v.ownBlock = none) : Later w w' :=
  Keeps.later (h.keep.mono fun b _ _ => by rw [hv]; simp)
theorem Put.base {e : TypeId} {w w' : World} {B : Nat} {v v' : Value} {l : List UInt8} (h : Put e w B v l v' w') (hv : v.ownBlock = none) : w'.ownsRow w.heap.size e 1 v' l.length (byteCells l) := by
  refine ⟨h.own.1, h.own.2.imp id fun ⟨g, cp, cur, a1, a2, a3, a4⟩ => ⟨g, cp, cur, a1, ?_, a3, a4⟩⟩
  rcases h.block with h1 | ⟨g', h1, h2⟩
  · rw [hv, a1] at h1; cases h1
  · rw [a1] at h1
    simp only [Value.ownBlock, Option.some.injEq] at h1
    omega
theorem Put.other {e : TypeId} {w w' : World} {B : Nat} {v v' : Value} {l : List UInt8} (h : Put e w B v l v' w') {b : Nat} (hb : b < w.heap.size) (hs : some b ≠ v.ownBlock) : some b ≠ v'.ownBlock := by
  rcases h.block with h1 | ⟨g, h1, h2⟩
  · rw [h1]; exact hs
  · rw [h1]; intro e; injection e with e; omega
def PutTo (e : TypeId) (w : World) (B : Nat) (v : Value) (l : List UInt8) (en : Ending) (w' : World) : Prop := ∃ v', en = .returned v' ∧ Put e w B v l v' w'

section
variable {P : Program} {w : World}
/-- one byte that was laid down in a block of its own. -/
theorem wpList_put_byte {ops : Array Oper} {rest : List Oper} {o : Oper} {a : Act} {Q : Exit → Act → World → Prop} (hgd : o.guard = none) (s x : Operand) (t : TypeId)
    (ho : o.op = .call { callee := .builtin .append, args := #[s, x], argTypes := #[t, t] })
    (B : Nat) (e : TypeId) (ii : TypeInfo) (ht : P.underlying t = some (.slice e)) (hi : P.info? e = some ii) (hz : ii.zero = some (.int .u8 0)) (hsize : ii.size = 1) (hby : ii.bytes = 1)
    (v : Value) (l : List UInt8) (hs : a.eval s = v) (hown : w.ownsRow B e 1 v l.length (byteCells l)) (g : Nat) (y : Int) (hx : a.eval x = .slice (some ⟨g, 0, none⟩) 1 1) (hy : w.cell? ⟨g, 0, none⟩ = some (.int .u8 y))
    (c : UInt8) (hc : y = (c.toNat : Int)) (hsz : l.length + 1 ≤ 70368744177664) (hbase : B ≤ w.heap.size)
    (h : ∀ v' w', Put e w B v (l ++ [c]) v' w' → wpList P ops Q rest (a.put o.dst v') w') : wpList P ops Q (o :: rest) a w := by
  refine wpList_append w hgd s x t ho B e ii (.int .u8 0) 1 1 ht hi hz hsize hby rfl (by decide) v l.length (byteCells l) hs hown ⟨g, 0, none⟩ 1 1 (byteCells [c]) hx rfl (fun j u hu => ?_) (byteCells_one _) (by unfold maxLen; omega) (by omega) hbase fun v' w' hA => h v' w' (Put.of_appended hA (by simp) (byteCells_append _ _).symm)
  have hj : j = 0 := by have := (List.getElem?_eq_some_iff.1 hu).1; simp [byteCells] at this; omega
  subst hj
  simp only [byteCells, List.map_cons, List.map_nil, List.getElem?_cons_zero, Option.some.injEq] at hu
  rw [add_none rfl, ← hu, ← hc]
  exact hy
/-- bytes of a slice. -/
theorem wpList_put_bytes {ops : Array Oper} {rest : List Oper} {o : Oper} {a : Act} {Q : Exit → Act → World → Prop} (hgd : o.guard = none) (s x : Operand) (t : TypeId)
    (ho : o.op = .call { callee := .builtin .append, args := #[s, x], argTypes := #[t, t] })
    (B : Nat) (e : TypeId) (ii : TypeInfo) (ht : P.underlying t = some (.slice e)) (hi : P.info? e = some ii) (hz : ii.zero = some (.int .u8 0)) (hsize : ii.size = 1) (hby : ii.bytes = 1)
    (v : Value) (l : List UInt8) (hs : a.eval s = v) (hown : w.ownsRow B e 1 v l.length (byteCells l)) (S : Nat → Prop) (xv : Value) (m : List UInt8) (hx : a.eval x = xv) (hm : BytesIn S w xv m)
    (hsz : l.length + m.length ≤ 70368744177664) (hbase : B ≤ w.heap.size)
    (h : ∀ v' w', Put e w B v (l ++ m) v' w' → wpList P ops Q rest (a.put o.dst v') w') : wpList P ops Q (o :: rest) a w := by
  have hm0 := hm
  obtain ⟨ad, c, rfl, hl, hc, hn, he⟩ := hm
  cases ad with
  | none =>
    have h0 := hn rfl
    have hm1 : m = [] := List.eq_nil_of_length_eq_zero (by omega)
    subst hm1 h0
    refine wpList_append_nil w hgd s x t ho B e ii 1 ht hi v l.length (byteCells l) hs hown hx (h v w ?_)
    rw [List.append_nil]
    exact Put.refl hown
  | some ad =>
    exact wpList_append w hgd s x t ho B e ii (.int .u8 0) 1 1 ht hi hz hsize hby rfl (by decide) v l.length (byteCells l) hs hown ad m.length c (byteCells m) hx (by rw [byteCells_length, Nat.mul_one]) (hm0.news rfl rfl) (byteCells_one _) (by unfold maxLen; omega) (by omega) hbase fun v' w' hA => h v' w' (Put.of_appended hA (by simp) (byteCells_append _ _).symm)
theorem strCells_bytes (s : ByteArray) : Lib.strCells s = byteCells s.data.toList := rfl
/-- the bytes of a text. -/
theorem wpList_put_text {ops : Array Oper} {rest : List Oper} {o : Oper} {a : Act} {Q : Exit → Act → World → Prop} (hgd : o.guard = none) (sl x : Operand) (t u : TypeId)
    (ho : o.op = .call { callee := .builtin .append, args := #[sl, x], argTypes := #[t, u] })
    (B : Nat) (e : TypeId) (ii : TypeInfo) (ht : P.underlying t = some (.slice e)) (hu : P.underlying u = some .string) (hi : P.info? e = some ii) (hz : ii.zero = some (.int .u8 0)) (hsize : ii.size = 1) (hby : ii.bytes = 1)
    (v : Value) (l : List UInt8) (hs : a.eval sl = v) (hown : w.ownsRow B e 1 v l.length (byteCells l)) (s : ByteArray) (hx : a.eval x = .string s)
    (hsz : l.length + s.size ≤ 70368744177664) (hbase : B ≤ w.heap.size)
    (h : ∀ v' w', Put e w B v (l ++ s.data.toList) v' w' → wpList P ops Q rest (a.put o.dst v') w') : wpList P ops Q (o :: rest) a w := by
  refine wpList_plain hgd fun K hK => ?_
  have hsm : s.data.toList.length = s.size := by rw [Array.length_toList]; rfl
  obtain ⟨v', w', hr, h2, h3, _⟩ := Lib.run_append_own_string (P := P) w B t u o.type e ii ht hu hi hz hsize hby v l.length (byteCells l) hown s (by unfold maxLen; omega) (by omega) hbase
  have hblk : v'.ownBlock = v.ownBlock ∨ ∃ g, v'.ownBlock = some g ∧ w.heap.size ≤ g := by
    rcases hown.2 with ⟨rfl, h0⟩ | ⟨g, cap, cur, rfl, hbg, hg, hnc, hcm, hcs, htake⟩
    · have hl0 : l = [] := List.eq_nil_of_length_eq_zero h0
      subst hl0
      by_cases hm : s.size = 0
      · have hf := Lib.run_firstCells_string (P := P) w 1 s
        rw [hm] at hf
        have : (Builtin.append_ #[t, u] o.type #[.slice none 0 0, .string s]).run P w = .ok (.slice none 0 0) w := by
          simp [Builtin.append_, run_underlying ht, run_underlying hu, sizeOf, typeInfo, hi, hsize, Builtin.lenOf, hm, hf]
        rw [this] at hr
        injection hr with hv _
        subst hv
        exact .inl rfl
      · have hr' := run_append_nil_string (P := P) w t u o.type e ii (.int .u8 0) ht hu hi hz s (by omega) (by omega) (by rw [hby]; omega)
        rw [hr'] at hr
        injection hr with hv _
        subst hv
        exact .inr ⟨_, rfl, Nat.le_refl _⟩
    · by_cases hroom : l.length + s.size ≤ cap
      · have hcs' : cur.size = cap := by simpa using hcs
        rw [Lib.run_append_room_string (P := P) w t u o.type e ii ht hu hi hsize g l.length cap cur hg s hroom (by omega)] at hr
        injection hr with hv _
        subst hv
        exact .inl rfl
      · have holds : ∀ j u, (byteCells l)[j]? = some u → w.cell? ((⟨g, 0, none⟩ : Addr).add j) = some u := hown.cells (g := g) rfl
        have hr' := Lib.run_append_grow_string (P := P) w t u o.type e ii (.int .u8 0) ht hu hi hz ⟨g, 0, none⟩ l.length cap (byteCells l) (by rw [hsize, byteCells_length, Nat.mul_one]) holds s (by omega) (by omega) (by rw [hby]; exact growslice_fits (by omega) (by omega))
        rw [hr'] at hr
        injection hr with hv _
        subst hv
        exact .inr ⟨_, rfl, Nat.le_refl _⟩
  unfold Oper.wp execOp
  simp only [ho, resolve, invoke, builtin, Sem.run_bind, Sem.run_pure, Result.andThen_ok, List.map_toArray, List.map_cons, List.map_nil, hs, hx, hr]
  refine hK _ _ (h v' w' ⟨?_, Keeps.of_grown h3, hblk⟩)
  rw [List.length_append, hsm, byteCells_append]
  exact h2
end
end Go.Proofs.YtgajofkeidjbgaaGreatDoor
namespace Go.Proofs.YtgajofkeidjbgaaGreatDoor
set_option linter.unusedSimpArgs false
set_option linter.unusedVariables false
open Go Go.RowKit

/-- a type of elements: its size in cells, in bytes. -/
structure ElemInfo (P : Program) (e : TypeId) (size bytes : Nat) : Prop where
  ex : ∃ i z, P.info? e = some i ∧ i.zero = some z ∧ i.size = size ∧ i.bytes = bytes ∧ z.cells.size = size ∧ 0 < size
theorem ElemInfo.of {P : Program} {e : TypeId} {z : Value} {size bytes : Nat} (h : (P.info? e).map (fun i => (i.zero, i.size, i.bytes)) = some (some z, size, bytes)) (hz : z.cells.size = size) (h0 : 0 < size) : ElemInfo P e size bytes := by
  obtain ⟨i, h1, h2, h3, h4⟩ := info_parts h
  exact ⟨i, z, h1, h2, h3, h4, hz, h0⟩

theorem obj_at {w : World} {o : Obj} {b : Nat} (h : b = w.heap.size) : (w.alloc o).heap[b]? = some o := h ▸ obj_new w o
section
variable {P : Program} {w : World}
theorem wpList_append_obj {ops : Array Oper} {rest : List Oper} {o : Oper} {a : Act} {Q : Exit → Act → World → Prop} (hgd : o.guard = none) (s x : Operand) (t : TypeId)
    (ho : o.op = .call { callee := .builtin .append, args := #[s, x], argTypes := #[t, t] })
    (e : TypeId) (size bytes : Nat) (ht : P.underlying t = some (.slice e)) (hI : ElemInfo P e size bytes)
    {base : Nat} {v : Value} {n : Nat} {xs : List Value} (hs : a.eval s = v) (hown : w.ownsRow base e size v n xs)
    {b m c : Nat} {news : List Value} {T : TypeId} {f : Nat × Nat} (hx : a.eval x = .slice (some ⟨b, 0, none⟩) m c) (hsrc : w.heap[b]? = some (.cells news.toArray T f)) (hl : news.length = m * size) (h1 : ∀ u ∈ news, u.oneCell' = true)
    (hbytes : (n + m) * bytes ≤ 140737488355328) (h63 : n + m ≤ maxLen) (hbase : base ≤ w.heap.size)
    (h : ∀ v' w', Appended w base e size v (n + m) (xs ++ news) v' w' → wpList P ops Q rest (a.put o.dst v') w') : wpList P ops Q (o :: rest) a w := by
  obtain ⟨i, z, hi, hz, h3, h4, h5, h6⟩ := hI.ex
  refine wpList_append w hgd s x t ho base e i z size bytes ht hi hz h3 h4 h5 h6 v n xs hs hown ⟨b, 0, none⟩ m c news hx hl ?_ h1 h63 hbytes hbase h
  intro j u hu
  rw [add_none rfl]
  exact cell_obj hsrc (by simpa using hu)

theorem wpList_make0 {ops : Array Oper} {rest : List Oper} {o : Oper} {a : Act} {Q : Exit → Act → World → Prop} (hgd : o.guard = none) (l c : Operand) (t : TypeId) (hop : o.op = Op.makeSlice t l c)
    (base : Nat) (e : TypeId) (size bytes : Nat) (ht : P.underlying t = some (.slice e)) (hI : ElemInfo P e size bytes) {kl kc : IntKind} {C : Int} {n : Nat} (hl : a.eval l = .int kl 0) (hc : a.eval c = .int kc C) (hC : C = (n : Int))
    (b2 : bytes * n ≤ 281474976710656) (b3 : n ≤ maxLen) (b4 : base ≤ w.heap.size)
    (hK : ∀ w', w'.ownsRow base e size (.slice (some ⟨w.heap.size, 0, none⟩) 0 n) 0 [] → w.grownBy w' none → wpList P ops Q rest (a.put o.dst (.slice (some ⟨w.heap.size, 0, none⟩) 0 n)) w') : wpList P ops Q (o :: rest) a w := by
  obtain ⟨i, z, hi, hz, h3, h4, h5, h6⟩ := hI.ex
  exact wpList_make_own w hgd l c t hop base e i z size ht hi hz h3 kl kc C n hl hc hC (by rw [h4]; exact b2) b3 b4 hK
theorem wpList_makeN {ops : Array Oper} {rest : List Oper} {o : Oper} {a : Act} {Q : Exit → Act → World → Prop} (hgd : o.guard = none) (l c : Operand) (t : TypeId) (hop : o.op = Op.makeSlice t l c)
    (base : Nat) (e : TypeId) (z : Value) (size bytes : Nat) (ht : P.underlying t = some (.slice e)) (hI : (P.info? e).map (fun i => (i.zero, i.size, i.bytes)) = some (some z, size, bytes)) {kl kc : IntKind} {L C : Int} {n : Nat} (hl : a.eval l = .int kl L) (hc : a.eval c = .int kc C)
    (hL : L = (n : Int)) (hC : C = (n : Int)) (b2 : bytes * n ≤ 281474976710656) (b3 : n ≤ maxLen) (b4 : base ≤ w.heap.size)
    (hK : ∀ w', w'.ownsRow base e size (.slice (some ⟨w.heap.size, 0, none⟩) n n) n (madeCells z.cells (n * size)).toList → w.grownBy w' none → wpList P ops Q rest (a.put o.dst (.slice (some ⟨w.heap.size, 0, none⟩) n n)) w') : wpList P ops Q (o :: rest) a w := by
  obtain ⟨i, hi, hz, h3, h4⟩ := info_parts hI
  exact wpList_make_full w hgd l c t hop base e i z size ht hi hz h3 kl kc L C n hl hc hL hC (by rw [h4]; exact b2) b3 b4 hK
theorem grown_none {w' : World} (h : w.grownBy w' none) : Later w w' := Keeps.later ((Keeps.of_grown h).mono fun _ _ _ => by simp)

theorem Appended.keeps {B s n : Nat} {e : TypeId} {xs : List Value} {v v' : Value} {w' : World} (hA : Appended w B e s v n xs v' w') : Keeps (fun b => some b ≠ v.ownBlock) w w' := Keeps.of_grown hA.grown
theorem Appended.low {B s n m : Nat} {e : TypeId} {xs ys : List Value} {v v' : Value} {w' : World} (hA : Appended w B e s v n xs v' w') (ho : w.ownsRow B e s v m ys) : Keeps (fun b => b < B) w w' :=
  hA.keeps.mono fun k _ hk he => by have := (ho.lt k he.symm).1; omega
theorem Appended.later {B s n m : Nat} {e : TypeId} {xs ys : List Value} {v v' : Value} {w0 w' : World} (hA : Appended w B e s v n xs v' w') (ho : w.ownsRow B e s v m ys) (hL : Later w0 w) (hB : w0.heap.size ≤ B) : Later w0 w' :=
  ((hL.keeps (fun b => b < B)).trans (hA.low ho)).mono (S' := fun _ => True) (fun k hk _ => by omega) |>.later
end
/-- what is not a slice's own block is there still. -/
theorem Appended.obj {w w' : World} {B s n : Nat} {e : TypeId} {xs : List Value} {v v' : Value} (hA : Appended w B e s v n xs v' w') {b : Nat} {o : Obj} (h : w.heap[b]? = some o) (hb : some b ≠ v.ownBlock) : w'.heap[b]? = some o := hA.keeps.obj hb h

theorem own_ne {w : World} {B s n b : Nat} {e t : TypeId} {v : Value} {xs : List Value} {cs : Array Value} {f : Nat × Nat} (h : w.ownsRow B e s v n xs) (hb : w.heap[b]? = some (.cells cs t f)) (hne : e ≠ t) : v.ownBlock ≠ some b := by
  intro he
  rcases h.2 with ⟨rfl, _⟩ | ⟨g, cap, cur, rfl, _, hg, _⟩
  · cases he
  · obtain rfl : g = b := by simpa [Value.ownBlock] using he
    rw [hg] at hb
    injection hb with hb
    injection hb with _ hb
    exact hne hb
theorem own_set {w : World} {B s n : Nat} {e : TypeId} {v : Value} {xs : List Value} (h : w.ownsRow B e s v n xs) {p : Addr} (hp : v.ownBlock ≠ some p.block) (u : Value) : (w.setCell p u).ownsRow B e s v n xs := by
  refine ⟨h.1, h.2.imp id fun ⟨g, cap, cur, h1, h2, h3, h4⟩ => ⟨g, cap, cur, h1, h2, ?_, h4⟩⟩
  rw [Below.heap_setCell _ _ _ _ (by rintro rfl; exact hp (by rw [h1]; rfl))]
  exact h3

/-- a world in which but the cells of 'S' are as they were (those of 'S' are there still). -/
structure Scrib (S : Nat → Nat → Prop) (w w' : World) : Prop where
  os : w'.os = w.os
  tape : w'.tape = w.tape
  output : w'.output = w.output
  size : w.heap.size ≤ w'.heap.size
  block : ∀ b, b < w.heap.size → (∀ o, ¬ S b o) → w'.heap[b]? = w.heap[b]?
  cell : ∀ b o v, w.cell? ⟨b, o, none⟩ = some v → ∃ v', w'.cell? ⟨b, o, none⟩ = some v' ∧ (¬ S b o → v' = v)
  free : ∀ b o, b < w.heap.size → w.frozen? ⟨b, o, none⟩ = false → w'.frozen? ⟨b, o, none⟩ = false
theorem Scrib.refl (S : Nat → Nat → Prop) (w : World) : Scrib S w w := ⟨rfl, rfl, rfl, Nat.le_refl _, fun _ _ _ => rfl, fun _ _ v h => ⟨v, h, fun _ => rfl⟩, fun _ _ _ h => h⟩
theorem Scrib.trans {S : Nat → Nat → Prop} {a b c : World} (h : Scrib S a b) (k : Scrib S b c) : Scrib S a c :=
  ⟨k.os.trans h.os, k.tape.trans h.tape, k.output.trans h.output, Nat.le_trans h.size k.size, fun i hi hs => (k.block i (Nat.lt_of_lt_of_le hi h.size) hs).trans (h.block i hi hs),
    fun i o v hv => (let ⟨v1, h1, e1⟩ := h.cell i o v hv; let ⟨v2, h2, e2⟩ := k.cell i o v1 h1; ⟨v2, h2, fun hs => (e2 hs).trans (e1 hs)⟩), fun i o hi hf => k.free i o (Nat.lt_of_lt_of_le hi h.size) (h.free i o hi hf)⟩
theorem Scrib.of_later {S : Nat → Nat → Prop} {w w' : World} (h : Later w w') : Scrib S w w' :=
  ⟨h.os, h.tape, h.output, h.size, fun i hi _ => h.block i hi, fun _ _ v hv => ⟨v, h.cell hv, fun _ => rfl⟩, fun b o hb hf => by rw [h.frozens b o hb]; exact hf⟩
theorem Scrib.mono {S S' : Nat → Nat → Prop} {w w' : World} (h : Scrib S w w') (hs : ∀ b o, S b o → S' b o) : Scrib S' w w' :=
  ⟨h.os, h.tape, h.output, h.size, fun i hi hn => h.block i hi fun o ho => hn o (hs _ _ ho), fun b o v hv => (let ⟨v', h1, h2⟩ := h.cell b o v hv; ⟨v', h1, fun hn => h2 fun ho => hn (hs _ _ ho)⟩), h.free⟩
theorem Scrib.keeps {S : Nat → Nat → Prop} {w w' : World} (h : Scrib S w w') : Keeps (fun b => ∀ o, ¬ S b o) w w' := ⟨h.os, h.tape, h.output, h.size, fun k hk hs => h.block k hk hs⟩
theorem Scrib.same {S : Nat → Nat → Prop} {w w' : World} (h : Scrib S w w') {b o : Nat} {v : Value} (hv : w.cell? ⟨b, o, none⟩ = some v) (hs : ¬ S b o) : w'.cell? ⟨b, o, none⟩ = some v := by
  obtain ⟨v', h1, h2⟩ := h.cell b o v hv
  rw [h1, h2 hs]
theorem Scrib.there {S : Nat → Nat → Prop} {w w' : World} (h : Scrib S w w') {b o : Nat} {v : Value} (hv : w.cell? ⟨b, o, none⟩ = some v) : ∃ v', w'.cell? ⟨b, o, none⟩ = some v' := let ⟨v', h1, _⟩ := h.cell b o v hv; ⟨v', h1⟩
theorem cell_set_other {w : World} {p q : Addr} {x v : Value} (h : w.cell? q = some v) (hpq : p.block ≠ q.block ∨ (q.spot = none ∧ p.spot = none ∧ p.off ≠ q.off)) : (w.setCell p x).cell? q = some v := by
  obtain ⟨v', hv'⟩ := cell?_setCell_some (w := w) (p := p) (x := x) (q := q) (v := v) h
  rw [hv']
  obtain ⟨b, i, s⟩ := p
  obtain ⟨b', i', s'⟩ := q
  rcases hpq with hb | ⟨hs, hs', hi⟩
  · have hh := Below.heap_setCell w ⟨b, i, s⟩ x b' (fun e => hb e.symm)
    have := World.cell?_of_block (w := w) (w' := w.setCell ⟨b, i, s⟩ x) (a := ⟨b', i', s'⟩) hh
    rw [this, h] at hv'
    exact hv'.symm
  · simp only at hs hs' hi
    subst hs hs'
    by_cases hb : b = b'
    · subst hb
      unfold World.cell? at h hv'
      cases hw : w.heap[b]? with
      | none => simp [hw] at h
      | some o =>
        cases o with
        | cells c t f =>
          have h2 := obj_setCell (i := i) hw x
          simp only [hw] at h
          simp only [h2] at hv'
          simp_all
        | _ => simp_all
    · have hh := Below.heap_setCell w ⟨b, i, none⟩ x b' (fun e => hb e.symm)
      have := World.cell?_of_block (w := w) (w' := w.setCell ⟨b, i, none⟩ x) (a := ⟨b', i', none⟩) hh
      rw [this, h] at hv'
      exact hv'.symm
theorem Scrib.set {S : Nat → Nat → Prop} {a w : World} (h : Scrib S a w) {b o : Nat} (hs : S b o) (v : Value) : Scrib S a (w.setCell ⟨b, o, none⟩ v) := by
  refine h.trans ⟨rfl, rfl, rfl, by simp [World.setCell], fun k hk hn => Below.heap_setCell w _ v k (by rintro rfl; exact hn _ hs), fun b' o' u hu => ?_, fun b' o' hb hf => ?_⟩
  · obtain ⟨v', hv'⟩ := cell?_setCell_some (w := w) (p := ⟨b, o, none⟩) (x := v) (q := ⟨b', o', none⟩) (v := u) hu
    refine ⟨v', hv', fun hn => ?_⟩
    have := cell_set_other (p := ⟨b, o, none⟩) (x := v) hu (by
      by_cases hb : b = b'
      · exact .inr ⟨rfl, rfl, fun he => hn (by subst hb; simp only at he; subst he; exact hs)⟩
      · exact .inl hb)
    rw [this] at hv'
    exact (Option.some.inj hv').symm
  · rw [World.frozen?_setCell]; exact hf
end Go.Proofs.YtgajofkeidjbgaaGreatDoor
namespace Go.Proofs.YtgajofkeidjbgaaGreatDoor
set_option linter.unusedSimpArgs false
set_option linter.unusedVariables false
open Go Go.RowKit

section
variable {P : Program} {w : World}
theorem wpList_bytes_of {ops : Array Oper} {rest : List Oper} {o : Oper} {a : Act} {Q : Exit → Act → World → Prop} (hgd : o.guard = none) (x : Operand) (src dst e : TypeId)
    (ho : o.op = .convert src dst x) (hs : P.underlying src = some .string) (hd : P.underlying dst = some (.slice e)) (he : P.underlying e = some (.int .u8)) (s : ByteArray) (hx : a.eval x = .string s)
    (h : ∀ c w', Later w w' → w'.heap.size = w.heap.size + 1 → (∀ k (hk : k < s.data.toList.length), w'.cell? ⟨w.heap.size, k, none⟩ = some (.int .u8 ((s.data.toList[k]).toNat : Int))) → wpList P ops Q rest (a.put o.dst (.slice (some ⟨w.heap.size, 0, none⟩) s.size c)) w') :
    wpList P ops Q (o :: rest) a w := by
  refine wpList_plain hgd fun K hK => ?_
  have hr := run_bytes_of_string (P := P) w src dst e s hs hd he
  unfold Oper.wp execOp
  simp only [ho, hx, Sem.run_bind, Sem.run_pure, Result.andThen_ok, hr]
  refine hK _ _ (h _ _ ((Later.drew w).alloc' _) (by simp [World.alloc]) fun k hk => ?_)
  have hsz : w.drew.heap.size = w.heap.size := rfl
  rw [← hsz]
  refine cell_obj (obj_new w.drew _) ?_
  unfold bytesRow
  have hk' : k < s.data.size := by simpa using hk
  rw [Array.getElem?_append_left (by simpa using hk')]
  simp
  exact ⟨s.data[k], by simp [hk'], rfl⟩
end

/-- a hexadecimal digit. -/
def hexD (n : Nat) : UInt8 := UInt8.ofNat (if n < 10 then 48 + n else 87 + n)
def oddB (c : UInt8) : Bool := decide (c.toNat < 32) || (decide (126 < c.toNat) || (decide (c.toNat = 39) || decide (c.toNat = 92)))
def quoteC (c : UInt8) : List UInt8 := if oddB c = true then [92, hexD (c.toNat / 16), hexD (c.toNat % 16)] else [c]
def quoteL (l : List UInt8) : List UInt8 := 39 :: (l.flatMap quoteC ++ [39])
theorem quoteC_len (c : UInt8) : (quoteC c).length ≤ 3 := by unfold quoteC; split <;> simp
theorem flat_len : ∀ l : List UInt8, (l.flatMap quoteC).length ≤ 3 * l.length
  | [] => by simp
  | c :: l => by
    have := flat_len l
    have := quoteC_len c
    simp only [List.flatMap_cons, List.length_append, List.length_cons]
    omega
theorem flat_snoc {l : List UInt8} {k : Nat} (h : k < l.length) : (l.take (k + 1)).flatMap quoteC = (l.take k).flatMap quoteC ++ quoteC l[k] := by
  rw [List.take_succ_eq_append_getElem h, List.flatMap_append, List.flatMap_cons, List.flatMap_nil, List.append_nil]
def StrTo (w : World) (l : List UInt8) (e : Ending) (w' : World) : Prop := e = .returned (.string (strB l)) ∧ Later w w'
theorem ret_str {a b : List UInt8} (h : a = b) : Ending.returned (.string (strB a)) = .returned (.string (strB b)) := by rw [h]
theorem grow_later (w : World) (k : Nat) (os : Array Obj) : Later w (Go.Sort.grow (w.drewN k) os) := Lib.below_grow _ w (Nat.le_refl _) k os
end Go.Proofs.YtgajofkeidjbgaaGreatDoor
namespace Go.Proofs.YtgajofkeidjbgaaGreatDoor
set_option linter.unusedSimpArgs false
set_option linter.unusedVariables false
open Go.RowKit
theorem infoU8 : (Tryz.prog.info? 5).map (fun i => (i.zero, i.size, i.bytes)) = some (some (.int .u8 0), 1, 1) := by kernel_rfl
end Go.Proofs.YtgajofkeidjbgaaGreatDoor
