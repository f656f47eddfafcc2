/-
  PROVED HERE: what it is that memory holds bytes; strings of bytes; slices of slices; copying nothing. No program of its own.
-/
import Derived.Test.YtbabfibmopfghaaGreatDoorOwn
import Derived.Test.YtbabfibmopfghaaGreatDoorOpen
import Derived.Laws.BytesArg
import Derived.Laws.Slices
import Derived.Shelf.Bytes.SlSmallAll
import Derived.Lib.SlicesS
import Derived.Test.YtbabfibmopfghaaGreatDoorCopyZero
namespace Go.Proofs.YtbabfibmopfghaaGreatDoor
set_option linter.unusedSimpArgs false
set_option linter.unusedVariables false
open Go Go.RowKit Go.Deep

def ByteAt (w : World) (b o : Nat) (x : UInt8) : Prop := w.cell? ⟨b, o, none⟩ = some (.int .u8 (x.toNat : Int))
theorem ByteAt.kept {S : Nat → Prop} {w w' : World} {b o : Nat} {x : UInt8} (h : ByteAt w b o x) (hs : S b) (k : Keeps S w w') : ByteAt w' b o x := k.cell (p := ⟨b, o, none⟩) hs h
abbrev BytesIn (S : Nat → Prop) (w : World) (v : Value) (l : List UInt8) : Prop := SliceOf S ByteAt 1 w v l
abbrev IsBytes (w : World) (v : Value) (l : List UInt8) : Prop := BytesIn All w v l
theorem SliceOf.bytes_kept {S S' : Nat → Prop} {w w' : World} {v : Value} {l : List UInt8} (h : BytesIn S w v l) (k : Keeps S' w w') (hs : ∀ b, S b → S' b) : BytesIn S w' v l := h.map fun _ _ _ hb hx => ⟨hb, hx.kept (hs _ hb) k⟩
theorem SliceOf.bytes_later {S : Nat → Prop} {w w' : World} {v : Value} {l : List UInt8} (h : BytesIn S w v l) (k : Later w w') : BytesIn S w' v l := h.bytes_kept (k.keeps S) fun _ h => h
theorem SliceOf.bytes_mono {S S' : Nat → Prop} {w : World} {v : Value} {l : List UInt8} (h : BytesIn S w v l) (hs : ∀ b, S b → S' b) : BytesIn S' w v l := h.map fun _ _ _ hb hx => ⟨hs _ hb, hx⟩
theorem SliceOf.blt {S : Nat → Prop} {w : World} {v : Value} {l : List UInt8} (h : BytesIn S w v l) : BytesIn (fun b => b < w.heap.size) w v l := h.map fun b o x _ hx => ⟨by have := cell_lt hx; exact this, hx⟩
theorem SliceOf.all {α : Type} {S : Nat → Prop} {at_ : World → Nat → Nat → α → Prop} {size : Nat} {w : World} {v : Value} {l : List α} (h : SliceOf S at_ size w v l) : SliceOf All at_ size w v l := h.map fun _ _ _ _ hx => ⟨trivial, hx⟩

/-- the value that 's[lo:hi]' is. -/
theorem SliceOf.sub {α : Type} {S : Nat → Prop} {at_ : World → Nat → Nat → α → Prop} {size : Nat} {w : World} {a : Option Addr} {n c : Nat} {l : List α} (h : SliceOf S at_ size w (.slice a n c) l) (lo hi : Nat) (h1 : lo ≤ hi) (h2 : hi ≤ l.length) :
    SliceOf S at_ size w (sliced a lo hi c size) ((l.take hi).drop lo) := by
  obtain ⟨a', c', hv, hl, hc, hn, he⟩ := h
  simp only [Value.slice.injEq] at hv
  obtain ⟨rfl, rfl, rfl⟩ := hv
  have hlen : ((l.take hi).drop lo).length = hi - lo := by rw [List.length_drop, List.length_take]; omega
  refine ⟨if c = lo then a else a.map (·.add (lo * size)), c - lo, by rw [hlen]; rfl, by omega, by omega, fun h0 => ?_, fun i hi' => ?_⟩
  · split at h0
    · omega
    · cases a with
      | none => have := hn rfl; omega
      | some a => simp at h0
  · rw [hlen] at hi'
    obtain ⟨b, o, rfl, hS, hx⟩ := he (lo + i) (by omega)
    refine ⟨b, o + lo * size, ?_, hS, ?_⟩
    · rw [if_neg (by omega)]
      simp only [Option.map_some]
      rw [add_none rfl]
    · have e : ((l.take hi).drop lo)[i]'(by rw [hlen]; exact hi') = l[lo + i]'(by omega) := by simp
      rw [e]
      have e2 : o + lo * size + i * size = o + (lo + i) * size := by rw [Nat.add_mul]; omega
      rw [e2]
      exact hx

theorem byte_cell {S : Nat → Prop} {w : World} {a : Option Addr} {l : List UInt8} (h : Elems S ByteAt 1 w a l) {k : Nat} (hk : k < l.length) : ∃ b o, a = some ⟨b, o, none⟩ ∧ S b ∧ w.cell? ⟨b, o + k, none⟩ = some (.int .u8 (l[k].toNat : Int)) := by
  obtain ⟨b, o, ha, hs, hx⟩ := h k hk
  have hx' : w.cell? ⟨b, o + k * 1, none⟩ = some (.int .u8 (l[k].toNat : Int)) := hx
  rw [Nat.mul_one] at hx'
  exact ⟨b, o, ha, hs, hx'⟩
section
variable {P : Program} {S : Nat → Prop} {w : World} {v : Value} {l : List UInt8}
def strB (l : List UInt8) : ByteArray := ⟨l.toArray⟩
theorem strB_size (l : List UInt8) : (strB l).size = l.length := by simp [strB, ByteArray.size]
theorem strB_inj {l m : List UInt8} (h : strB l = strB m) : l = m := by
  have := congrArg (fun s : ByteArray => s.data.toList) h
  simpa [strB] using this
theorem strB_data (s : ByteArray) : strB s.data.toList = s := by cases s; rfl
theorem strB_nums (l : List UInt8) : strOfNums (l.map fun x => (x.toNat : Int)) = strB l := by
  unfold strOfNums strB
  simp only [List.map_map]
  congr 1
  congr 1
  conv => rhs; rw [← List.map_id l]
  exact List.map_congr_left fun x _ => by simp
theorem SliceOf.string {src e dst : TypeId} (h : BytesIn S w v l) (hs : P.underlying src = some (.slice e)) (he : P.underlying e = some (.int .u8)) (hd : P.underlying dst = some .string) :
    (convert src dst v).run P w = .ok (.string (strB l)) w := by
  obtain ⟨a, c, rfl, hl, hc, hn, hx⟩ := h
  by_cases h0 : l = []
  · subst h0
    have := run_convert_bytes_zero (P := P) w src e hs he a c dst hd
    exact this
  · have hpos : 0 < l.length := List.length_pos_iff.2 h0
    obtain ⟨b, o, rfl, _, _⟩ := hx 0 hpos
    have := run_convert_bytes_arg (P := P) w src e hs he b o l.length c (l.map fun x => (x.toNat : Int)) (by simp) (fun i hi => by
      obtain ⟨b', o', hb, _, hat⟩ := hx i hi
      simp only [Option.some.injEq, Addr.mk.injEq, and_true] at hb
      obtain ⟨rfl, rfl⟩ := hb
      have hat' : w.cell? ⟨b, o + i * 1, none⟩ = some (.int .u8 (l[i].toNat : Int)) := hat
      rw [Nat.mul_one] at hat'
      rw [hat']
      simp [List.getD, hi]) dst hd
    rw [this, strB_nums]

theorem str_eq {l m : List UInt8} (h : l = m) : ((strB l).toList == (strB m).toList) = true := by rw [h]; exact beq_self_eq_true _
theorem str_ne {l m : List UInt8} (h : l ≠ m) : ((strB l).toList == (strB m).toList) = false := (Lib.bytes_beq_false_iff _ _).2 fun e => h (strB_inj e)
/-- the cells of bytes. -/
def byteCells (l : List UInt8) : List Value := l.map fun x => .int .u8 (x.toNat : Int)
theorem byteCells_length (l : List UInt8) : (byteCells l).length = l.length := by simp [byteCells]
theorem byteCells_one (l : List UInt8) : ∀ u ∈ byteCells l, u.oneCell' = true := fun u hu => by
  obtain ⟨x, _, rfl⟩ := List.mem_map.1 hu; rfl
theorem owned_bytes {base : Nat} {e : TypeId} {n : Nat} (h : w.ownsRow base e 1 v n (byteCells l)) : BytesIn (fun b => base ≤ b) w v l := by
  obtain ⟨hn, hv⟩ := h
  rw [byteCells_length, Nat.mul_one] at hn
  subst hn
  rcases hv with ⟨rfl, h0⟩ | ⟨g, cap, cur, rfl, hb, hg, hl, hm, hc, ht⟩
  · have : l = [] := List.eq_nil_of_length_eq_zero h0
    subst this
    exact ⟨none, 0, rfl, Nat.le_refl _, by unfold maxLen; omega, fun _ => rfl, fun i hi => by cases hi⟩
  · refine ⟨_, cap, rfl, hl, hm, fun h => (by cases h), fun i hi => ⟨g, 0, rfl, hb, ?_⟩⟩
    refine cell_obj hg ?_
    have : (byteCells l)[i]? = some (.int .u8 (l[i].toNat : Int)) := by simp [byteCells, hi]
    rw [← ht, List.getElem?_take] at this
    split at this
    · simpa using this
    · cases this
theorem SliceOf.news (h : BytesIn S w v l) {a : Option Addr} {n c : Nat} (hv : v = .slice a n c) {ad : Addr} (ha : a = some ad) : ∀ j u, (byteCells l)[j]? = some u → w.cell? (ad.add j) = some u := by
  obtain ⟨a', c', hv', _, _, _, hx⟩ := h
  subst hv
  simp only [Value.slice.injEq] at hv'
  obtain ⟨rfl, -, -⟩ := hv'
  intro j u hu
  have hj : j < l.length := by have := (List.getElem?_eq_some_iff.1 hu).1; rwa [byteCells_length] at this
  obtain ⟨b, o, hb, _, hat⟩ := hx j hj
  have e : a = some ad := ha
  rw [hb] at e
  simp only [Option.some.injEq] at e
  subst e
  rw [add_none rfl]
  have hat' : w.cell? ⟨b, o + j * 1, none⟩ = some (.int .u8 (l[j].toNat : Int)) := hat
  rw [Nat.mul_one] at hat'
  rw [hat']
  simp [byteCells, hj] at hu
  rw [hu]

theorem bytes_obj {g n c : Nat} {t : TypeId} {f : Nat × Nat} {l : List UInt8} (h : w.heap[g]? = some (.cells (byteCells l).toArray t f)) (hn : l.length = n) (hc : n ≤ c) (hm : c ≤ maxLen) (hS : S g) : BytesIn S w (.slice (some ⟨g, 0, none⟩) n c) l := by
  subst hn
  refine ⟨_, c, rfl, hc, hm, fun h => (by cases h), fun i hi => ⟨g, 0, rfl, hS, ?_⟩⟩
  refine cell_obj h ?_
  simp [byteCells, hi]
theorem bytes_nil (S : Nat → Prop) (w : World) : BytesIn S w (.slice none 0 0) [] := ⟨none, 0, rfl, Nat.le_refl _, by unfold maxLen; omega, fun _ => rfl, fun i hi => by cases hi⟩
theorem bytes_empty (S : Nat → Prop) (w : World) (a : Option Addr) (c : Nat) (hc : c ≤ maxLen) (ha : a = none → c = 0) : BytesIn S w (.slice a 0 c) [] := ⟨a, c, rfl, Nat.zero_le _, hc, ha, fun i hi => by cases hi⟩
theorem bytes_from {b o n c k : Nat} (h : BytesIn S w (.slice (some ⟨b, o, none⟩) n c) l) (hk : k < c) (hl : k ≤ l.length) : BytesIn S w (.slice (some ⟨b, o + k, none⟩) (n - k) (c - k)) (l.drop k) := by
  have := h.sub k l.length hl (Nat.le_refl _)
  obtain ⟨a', c', hv, -⟩ := h
  simp only [Value.slice.injEq] at hv
  obtain ⟨-, rfl, rfl⟩ := hv
  rw [List.take_length] at this
  unfold sliced at this
  rw [if_neg (by omega)] at this
  simp only [Option.map_some] at this
  rw [add_none rfl, Nat.mul_one] at this
  exact this
theorem bytes_mid {b o n c lo hi : Nat} (h : BytesIn S w (.slice (some ⟨b, o, none⟩) n c) l) (hk : lo < c) (h1 : lo ≤ hi) (h2 : hi ≤ l.length) : BytesIn S w (.slice (some ⟨b, o + lo, none⟩) (hi - lo) (c - lo)) ((l.take hi).drop lo) := by
  have := h.sub lo hi h1 h2
  unfold sliced at this
  rw [if_neg (by omega)] at this
  simp only [Option.map_some] at this
  rw [add_none rfl, Nat.mul_one] at this
  exact this
theorem bytes_none {a : Option Addr} {n c lo hi : Nat} (h : BytesIn S w (.slice a n c) l) (hk : lo = c) (h1 : lo ≤ hi) (h2 : hi ≤ l.length) : BytesIn S w (.slice a (hi - lo) (c - lo)) ((l.take hi).drop lo) := by
  have := h.sub lo hi h1 h2
  unfold sliced at this
  rw [if_pos hk.symm] at this
  exact this
end

section
variable {H : Type} {P : Program} {enc : TypeId × Value → H} {w : World} {base : Nat} {spare : Nat → Bool} {held : Bool}
/-- bytes that came in. -/
theorem open_bytes {tS e : TypeId} {fuel : Nat} {cs : List Value} {d : DataW H} {pl : List MemPlace} (ht : P.underlying tS = some (.slice e)) (he : P.underlying e = some (.int .u8)) (hC : P.cellsOf e = 1)
    (h : DataW.trod enc P w base spare held fuel tS cs = some (d, pl)) (hf : Fits P tS d) : ∃ v l, cs = [v] ∧ IsBytes w v l ∧ l.length * P.bytesOf e ≤ reachBytes := by
  obtain ⟨v, l, h1, h2, _, h4⟩ := open_list (At := ByteAt) (Good := fun _ => True) (size := 1) ht hC (by decide) (fun n cs' d pl ht' hf _ => by
    obtain ⟨k, q0, _, hw⟩ := DataW.trod_int he (show DataW.trod enc P w base spare held n e [cs'[0]'(by omega)] = some (d, pl) by
      rw [show [cs'[0]'(by omega)] = cs' from by
        obtain ⟨c0, rfl⟩ := list_one' ‹cs'.length = 1›
        rfl]
      exact ht')
    have hk : 0 ≤ k ∧ k < 256 := by
      simp [Lit.wf, IntKind.min, IntKind.max, IntKind.bits, IntKind.signed] at hw
      omega
    refine ⟨UInt8.ofNat k.toNat, trivial, fun b o hc => ?_⟩
    obtain ⟨c0, rfl⟩ := list_one' ‹cs'.length = 1›
    have := hc 0 c0 rfl
    simp only [List.getElem_cons_zero, List.cons.injEq, and_true] at q0
    subst q0
    unfold ByteAt
    rw [Nat.add_zero] at this
    rw [this]
    congr 2
    rw [UInt8.toNat_ofNat']
    omega) h hf
  exact ⟨v, l, h1, h2, h4⟩
end
end Go.Proofs.YtbabfibmopfghaaGreatDoor
