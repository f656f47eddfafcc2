/-
  PROVED HERE: a slice that came in, whatever its elements are, opened by what one element's cells say; what room its lists take. No program of its own.
  PROVED HERE: a copy of nothing. No program of its own.
  PROVED HERE: what it is that memory holds bytes; strings of bytes; slices of slices; copying nothing. No program of its own.
  PROVED HERE: numbers, values, rows as bytes, in plain Lean. No program of its own.
-/
import Derived.Test.YtgcnchmnciihnaaGreatDoorGData
import Derived.SizedLaws
import Derived.Laws.BytesArg
import Derived.Laws.Slices
import Derived.Shelf.Bytes.SlSmallAll
import Derived.Lib.SlicesS
import Derived.Laws.BitsLemmas
import Derived.Laws.Bits64
namespace Go.Proofs.YtgcnchmnciihnaaGreatDoor
set_option linter.unusedSimpArgs false
set_option linter.unusedVariables false
open Go Go.RowKit Go.Deep

section
variable {H : Type} {P : Program}
/-- each list and text in a datum has room in a machine. -/
def Fits (P : Program) (t : TypeId) (d : DataW H) : Prop := ∀ n ∈ d.weights P t, n ≤ reachBytes
theorem weights_all {e : TypeId} : ∀ {l : List (DataW H)} {d : DataW H}, d ∈ l → ∀ n ∈ d.weights P e, n ∈ DataW.weightsAll P e l
  | [], _, h, _, _ => by cases h
  | d0 :: l, d, h, n, hn => by
    simp only [DataW.weightsAll, List.mem_append]
    rcases List.mem_cons.1 h with rfl | h
    · exact .inl hn
    · exact .inr (weights_all h n hn)
theorem Fits.each {ts : List TypeId} {ds : List (DataW H)} (h : (DataW.weightsEach P ts ds).all (· ≤ reachBytes) = true) {j : Nat} {t : TypeId} {d : DataW H} (ht : ts[j]? = some t) (hd : ds[j]? = some d) : Fits P t d :=
  fun n hn => by simpa using List.all_eq_true.1 h n (DataW.weights_mem_each ht hd n hn)
theorem Fits.field {t : TypeId} {fs : Array Field} {parts : List (DataW H)} (h : Fits P t (.agg parts)) (ht : P.underlying t = some (.struct fs)) {j : Nat} {f : Field} {d : DataW H} (hf : fs[j]? = some f) (hd : parts[j]? = some d) : Fits P f.type d :=
  fun n hn => h n (by
    simp only [DataW.weights, ht]
    exact DataW.weights_mem_each (j := j) (by simp [hf]) hd n hn)
theorem Fits.len {t e : TypeId} {elems spare : List (DataW H)} (h : Fits P t (.slice elems spare)) (ht : P.underlying t = some (.slice e)) : (elems.length + spare.length) * P.bytesOf e ≤ reachBytes :=
  h _ (by simp [DataW.weights, ht])
theorem Fits.elem {t e : TypeId} {elems spare : List (DataW H)} (h : Fits P t (.slice elems spare)) (ht : P.underlying t = some (.slice e)) {d : DataW H} (hd : d ∈ elems) : Fits P e d :=
  fun n hn => h n (by simp only [DataW.weights, ht, List.mem_cons, List.mem_append]; exact .inr (.inl (weights_all hd n hn)))

variable {enc : TypeId × Value → H} {w : World} {base : Nat} {spare : Nat → Bool} {held : Bool}
theorem open_struct {t : TypeId} {fs : Array Field} {n : Nat} {cs : List Value} {d : DataW H} {pl : List MemPlace} (ht : P.underlying t = some (.struct fs)) (h : DataW.trod enc P w base spare held n t cs = some (d, pl)) (hf : Fits P t d) :
    cs.length = P.cellsOf t ∧ ∀ (i : Nat) (f : Field), fs[i]? = some f → ∃ n' d' pl', DataW.trod enc P w base spare held n' f.type ((cs.drop f.offset).take (P.cellsOf f.type)) = some (d', pl') ∧ Fits P f.type d' := by
  obtain ⟨xs, n', _, hx, hl, hxl, hfs⟩ := DataW.trod_struct ht h
  simp only [Prod.mk.injEq] at hx
  obtain ⟨rfl, -⟩ := hx
  refine ⟨hl, fun i f hi => ?_⟩
  have hlt : i < xs.length := by rw [hxl]; exact (Array.getElem?_eq_some_iff.1 hi).1
  have hg := hfs i f hi
  rw [List.getElem?_eq_getElem hlt] at hg
  exact ⟨n', xs[i].1, xs[i].2, hg, hf.field ht hi (by simp [hlt])⟩
theorem list_one' {α : Type} : ∀ {l : List α}, l.length = 1 → ∃ a, l = [a]
  | [a], _ => ⟨a, rfl⟩
theorem open_list {α : Type} {tS e : TypeId} {size fuel : Nat} {At : World → Nat → Nat → α → Prop} {Good : α → Prop} {cs : List Value} {d : DataW H} {pl : List MemPlace} (ht : P.underlying tS = some (.slice e)) (hC : P.cellsOf e = size) (hpos : 0 < size)
    (hE : ∀ n cs' d pl, DataW.trod enc P w base spare held n e cs' = some (d, pl) → Fits P e d → cs'.length = size → ∃ x, Good x ∧ ∀ b o, (∀ j u, cs'[j]? = some u → w.cell? ⟨b, o + j, none⟩ = some u) → At w b o x)
    (h : DataW.trod enc P w base spare held fuel tS cs = some (d, pl)) (hf : Fits P tS d) : ∃ v l, cs = [v] ∧ SliceOf All At size w v l ∧ (∀ x ∈ l, Good x) ∧ l.length * P.bytesOf e ≤ reachBytes := by
  rcases open_slice ht h with ⟨rfl, _⟩ | ⟨a, len, cap, m, n, D, Pl, rfl, _, hl, hm, hmm, hx, hi⟩
  · exact ⟨_, [], rfl, ⟨none, 0, rfl, Nat.le_refl _, by unfold maxLen; omega, fun _ => rfl, fun i hi => (by cases hi)⟩, (fun x hx => (by cases hx)), by simp⟩
  · have hlm : len ≤ m := by rw [hmm]; split <;> omega
    simp only [Prod.mk.injEq] at hx
    obtain ⟨rfl, -⟩ := hx
    have hw := hf.len ht
    simp only [List.length_map, List.length_range] at hw
    have key : ∀ i, i < len → ∃ x, (a.spot = none ∧ Good x) ∧ At w a.block (a.off + i * size) x := fun i hil => by
      obtain ⟨cs', hc, ht'⟩ := hi i (by omega)
      rw [hC] at hc
      obtain ⟨_, hcl, hat⟩ := World.cells?_some hc
      have hs : a.spot = none := by
        obtain ⟨cs0, hc0, _⟩ := hi 0 (by omega)
        rw [hC] at hc0
        obtain ⟨_, hcl0, hat0⟩ := World.cells?_some hc0
        have h0 := hat0 0 hpos
        rw [List.getElem?_eq_getElem (by omega)] at h0
        have := World.cell?_spot h0
        simpa [Addr.add] using this
      obtain ⟨x, hg, hA⟩ := hE n cs' _ _ ht' (hf.elem ht (List.mem_map.2 ⟨i, List.mem_range.2 hil, rfl⟩)) hcl
      refine ⟨x, ⟨hs, hg⟩, hA _ _ fun j u hu => ?_⟩
      have hj : j < size := by have := (List.getElem?_eq_some_iff.1 hu).1; omega
      have hh := hat j hj
      rw [hu, add_none hs, add_none rfl] at hh
      exact hh
    obtain ⟨l, rfl, hp⟩ := list_of len key
    refine ⟨_, l, rfl, ⟨some a, cap, rfl, hl, hm, fun h => (by cases h), fun i hi => ⟨a.block, a.off, (by obtain ⟨⟨hs, _⟩, _⟩ := hp i hi; cases a; simp only at hs; subst hs; rfl), trivial, (hp i hi).2⟩⟩, fun x hx => (by obtain ⟨i, hi, rfl⟩ := List.getElem_of_mem hx; exact (hp i hi).1.2), ?_⟩
    exact Nat.le_trans (Nat.mul_le_mul_right _ (Nat.le_add_right _ _)) hw
end
end Go.Proofs.YtgcnchmnciihnaaGreatDoor
namespace Go.Proofs.YtgcnchmnciihnaaGreatDoor
set_option linter.unusedSimpArgs false
set_option linter.unusedVariables false
open Go Go.RowKit

section
variable {P : Program} {w : World}
/-- a copy of nothing. -/
theorem run_copy_zero (dT sT ty elem : TypeId) (i : TypeInfo) (da : Option Addr) (dLen dCap : Nat) (sa : Option Addr) (sLen sCap : Nat) (hu : P.underlying dT = some (.slice elem)) (hi : P.info? elem = some i) (hn : Nat.min sLen dLen = 0) :
    (Builtin.copy_ #[dT, sT] ty #[.slice da dLen dCap, .slice sa sLen sCap]).run P w = .ok (goInt 0) w := by
  cases sa <;> cases da <;> simp [Builtin.copy_, run_underlying hu, Builtin.lenOf, sizeOf, typeInfo, hi, hn, Builtin.firstCells, loadCells, loadCellsFrom, storeCells]
theorem wpList_copy_zero {ops : Array Oper} {rest : List Oper} {o : Oper} {a : Act} {Q : Exit → Act → World → Prop} (hgd : o.guard = none) (d s : Operand) (dT sT : TypeId)
    (ho : o.op = .call { callee := .builtin .copy, args := #[d, s], argTypes := #[dT, sT] }) (elem : TypeId) (i : TypeInfo) (hu : P.underlying dT = some (.slice elem)) (hi : P.info? elem = some i)
    (da : Option Addr) (dLen dCap : Nat) (sa : Option Addr) (sLen sCap : Nat) (hd : a.eval d = .slice da dLen dCap) (hs : a.eval s = .slice sa sLen sCap) (hn : Nat.min sLen dLen = 0)
    (h : wpList P ops Q rest (a.put o.dst (goInt 0)) w) : wpList P ops Q (o :: rest) a w := by
  refine wpList_plain hgd fun K hK => ?_
  have hrun := run_copy_zero (P := P) (w := w) dT sT o.type elem i da dLen dCap sa sLen sCap hu hi hn
  unfold Oper.wp execOp
  simp only [ho, resolve, invoke, builtin, Sem.run_bind, Sem.run_pure, Result.andThen_ok, List.map_toArray, List.map_cons, List.map_nil, hd, hs, hrun]
  exact hK _ _ h
/-- a copy of all of a slice into a block of one's own. -/
theorem wpList_copy_list {ops : Array Oper} {rest : List Oper} {o : Oper} {a : Act} {Q : Exit → Act → World → Prop} (hgd : o.guard = none) (d s : Operand) (dT sT : TypeId)
    (ho : o.op = .call { callee := .builtin .copy, args := #[d, s], argTypes := #[dT, sT] }) (elem : TypeId) (i : TypeInfo) (size : Nat) (hu : P.underlying dT = some (.slice elem)) (hi : P.info? elem = some i) (hsize : i.size = size) (hpos : 0 < size)
    (g dLen dCap : Nat) (sa : Option Addr) (sLen sCap : Nat) (hd : a.eval d = .slice (some ⟨g, 0, none⟩) dLen dCap) (hs : a.eval s = .slice sa sLen sCap)
    (cur : List Value) (t : TypeId) (hg : w.heap[g]? = some (.cells cur.toArray t (0, 0))) (hle : sLen ≤ dLen) (hcur : dLen * size ≤ cur.length) (cs : List Value) (hl : cs.length = sLen * size) (h0 : sa = none → sLen = 0)
    (hsrc : ∀ ad, sa = some ad → ∀ j v, cs[j]? = some v → w.cell? (ad.add j) = some v) (h1 : ∀ v ∈ cs, v.oneCell' = true)
    (h : ∀ w', w'.heap[g]? = some (.cells (cs ++ cur.drop cs.length).toArray t (0, 0)) → Keeps (fun b => b ≠ g) w w' → wpList P ops Q rest (a.put o.dst (goInt sLen)) w') : wpList P ops Q (o :: rest) a w := by
  have hm : Nat.min sLen dLen = sLen := Nat.min_eq_left hle
  by_cases hz : sLen = 0
  · have hcs : cs = [] := List.eq_nil_of_length_eq_zero (by rw [hl, hz, Nat.zero_mul])
    subst hcs
    refine wpList_copy_zero hgd d s dT sT ho elem i hu hi _ _ _ _ _ _ hd hs (hm.trans hz) ?_
    rw [hz] at h
    exact h w (by simpa using hg) (Keeps.refl _ _)
  · cases sa with
    | none => exact absurd (h0 rfl) hz
    | some ad =>
      refine wpList_copy_rows w hgd d s dT sT ho elem i size hu hi hsize g 0 dLen dCap ad sLen sCap hd hs cur.toArray t hg sLen hm.symm cs hl (hsrc ad rfl) (by have := Nat.mul_le_mul_right size hle; simp; omega) h1 fun w' hw hk => h w' ?_ hk
      simpa using hw
end
end Go.Proofs.YtgcnchmnciihnaaGreatDoor
namespace Go.Proofs.YtgcnchmnciihnaaGreatDoor
set_option linter.unusedSimpArgs false
set_option linter.unusedVariables false
open Go Go.RowKit Go.Deep

def ByteAt (w : World) (b o : Nat) (x : UInt8) : Prop := w.cell? ⟨b, o, none⟩ = some (.int .u8 (x.toNat : Int))
theorem ByteAt.kept {S : Nat → Prop} {w w' : World} {b o : Nat} {x : UInt8} (h : ByteAt w b o x) (hs : S b) (k : Keeps S w w') : ByteAt w' b o x := k.cell (p := ⟨b, o, none⟩) hs h
abbrev BytesIn (S : Nat → Prop) (w : World) (v : Value) (l : List UInt8) : Prop := SliceOf S ByteAt 1 w v l
abbrev IsBytes (w : World) (v : Value) (l : List UInt8) : Prop := BytesIn All w v l
theorem SliceOf.bytes_kept {S S' : Nat → Prop} {w w' : World} {v : Value} {l : List UInt8} (h : BytesIn S w v l) (k : Keeps S' w w') (hs : ∀ b, S b → S' b) : BytesIn S w' v l := h.map fun _ _ _ hb hx => ⟨hb, hx.kept (hs _ hb) k⟩
theorem SliceOf.bytes_later {S : Nat → Prop} {w w' : World} {v : Value} {l : List UInt8} (h : BytesIn S w v l) (k : Later w w') : BytesIn S w' v l := h.bytes_kept (k.keeps S) fun _ h => h
theorem SliceOf.bytes_mono {S S' : Nat → Prop} {w : World} {v : Value} {l : List UInt8} (h : BytesIn S w v l) (hs : ∀ b, S b → S' b) : BytesIn S' w v l := h.map fun _ _ _ hb hx => ⟨hs _ hb, hx⟩
theorem SliceOf.blt {S : Nat → Prop} {w : World} {v : Value} {l : List UInt8} (h : BytesIn S w v l) : BytesIn (fun b => b < w.heap.size) w v l := h.map fun b o x _ hx => ⟨by have := cell_lt hx; exact this, hx⟩
theorem SliceOf.all {α : Type} {S : Nat → Prop} {at_ : World → Nat → Nat → α → Prop} {size : Nat} {w : World} {v : Value} {l : List α} (h : SliceOf S at_ size w v l) : SliceOf All at_ size w v l := h.map fun _ _ _ _ hx => ⟨trivial, hx⟩

/-- the value that 's[lo:hi]' is. -/
theorem SliceOf.sub {α : Type} {S : Nat → Prop} {at_ : World → Nat → Nat → α → Prop} {size : Nat} {w : World} {a : Option Addr} {n c : Nat} {l : List α} (h : SliceOf S at_ size w (.slice a n c) l) (lo hi : Nat) (h1 : lo ≤ hi) (h2 : hi ≤ l.length) :
    SliceOf S at_ size w (sliced a lo hi c size) ((l.take hi).drop lo) := by
  obtain ⟨a', c', hv, hl, hc, hn, he⟩ := h
  simp only [Value.slice.injEq] at hv
  obtain ⟨rfl, rfl, rfl⟩ := hv
  have hlen : ((l.take hi).drop lo).length = hi - lo := by rw [List.length_drop, List.length_take]; omega
  refine ⟨if c = lo then a else a.map (·.add (lo * size)), c - lo, by rw [hlen]; rfl, by omega, by omega, fun h0 => ?_, fun i hi' => ?_⟩
  · split at h0
    · omega
    · cases a with
      | none => have := hn rfl; omega
      | some a => simp at h0
  · rw [hlen] at hi'
    obtain ⟨b, o, rfl, hS, hx⟩ := he (lo + i) (by omega)
    refine ⟨b, o + lo * size, ?_, hS, ?_⟩
    · rw [if_neg (by omega)]
      simp only [Option.map_some]
      rw [add_none rfl]
    · have e : ((l.take hi).drop lo)[i]'(by rw [hlen]; exact hi') = l[lo + i]'(by omega) := by simp
      rw [e]
      have e2 : o + lo * size + i * size = o + (lo + i) * size := by rw [Nat.add_mul]; omega
      rw [e2]
      exact hx

theorem byte_cell {S : Nat → Prop} {w : World} {a : Option Addr} {l : List UInt8} (h : Elems S ByteAt 1 w a l) {k : Nat} (hk : k < l.length) : ∃ b o, a = some ⟨b, o, none⟩ ∧ S b ∧ w.cell? ⟨b, o + k, none⟩ = some (.int .u8 (l[k].toNat : Int)) := by
  obtain ⟨b, o, ha, hs, hx⟩ := h k hk
  have hx' : w.cell? ⟨b, o + k * 1, none⟩ = some (.int .u8 (l[k].toNat : Int)) := hx
  rw [Nat.mul_one] at hx'
  exact ⟨b, o, ha, hs, hx'⟩
section
variable {P : Program} {S : Nat → Prop} {w : World} {v : Value} {l : List UInt8}
def strB (l : List UInt8) : ByteArray := ⟨l.toArray⟩
theorem strB_size (l : List UInt8) : (strB l).size = l.length := by simp [strB, ByteArray.size]
theorem strB_inj {l m : List UInt8} (h : strB l = strB m) : l = m := by
  have := congrArg (fun s : ByteArray => s.data.toList) h
  simpa [strB] using this
theorem strB_data (s : ByteArray) : strB s.data.toList = s := by cases s; rfl
theorem strB_nums (l : List UInt8) : strOfNums (l.map fun x => (x.toNat : Int)) = strB l := by
  unfold strOfNums strB
  simp only [List.map_map]
  congr 1
  congr 1
  conv => rhs; rw [← List.map_id l]
  exact List.map_congr_left fun x _ => by simp
theorem SliceOf.string {src e dst : TypeId} (h : BytesIn S w v l) (hs : P.underlying src = some (.slice e)) (he : P.underlying e = some (.int .u8)) (hd : P.underlying dst = some .string) :
    (convert src dst v).run P w = .ok (.string (strB l)) w := by
  obtain ⟨a, c, rfl, hl, hc, hn, hx⟩ := h
  by_cases h0 : l = []
  · subst h0
    have := run_convert_bytes_zero (P := P) w src e hs he a c dst hd
    exact this
  · have hpos : 0 < l.length := List.length_pos_iff.2 h0
    obtain ⟨b, o, rfl, _, _⟩ := hx 0 hpos
    have := run_convert_bytes_arg (P := P) w src e hs he b o l.length c (l.map fun x => (x.toNat : Int)) (by simp) (fun i hi => by
      obtain ⟨b', o', hb, _, hat⟩ := hx i hi
      simp only [Option.some.injEq, Addr.mk.injEq, and_true] at hb
      obtain ⟨rfl, rfl⟩ := hb
      have hat' : w.cell? ⟨b, o + i * 1, none⟩ = some (.int .u8 (l[i].toNat : Int)) := hat
      rw [Nat.mul_one] at hat'
      rw [hat']
      simp [List.getD, hi]) dst hd
    rw [this, strB_nums]

theorem str_eq {l m : List UInt8} (h : l = m) : ((strB l).toList == (strB m).toList) = true := by rw [h]; exact beq_self_eq_true _
theorem str_ne {l m : List UInt8} (h : l ≠ m) : ((strB l).toList == (strB m).toList) = false := (Lib.bytes_beq_false_iff _ _).2 fun e => h (strB_inj e)
/-- the cells of bytes. -/
def byteCells (l : List UInt8) : List Value := l.map fun x => .int .u8 (x.toNat : Int)
theorem byteCells_length (l : List UInt8) : (byteCells l).length = l.length := by simp [byteCells]
theorem byteCells_one (l : List UInt8) : ∀ u ∈ byteCells l, u.oneCell' = true := fun u hu => by
  obtain ⟨x, _, rfl⟩ := List.mem_map.1 hu; rfl
theorem owned_bytes {base : Nat} {e : TypeId} {n : Nat} (h : w.ownsRow base e 1 v n (byteCells l)) : BytesIn (fun b => base ≤ b) w v l := by
  obtain ⟨hn, hv⟩ := h
  rw [byteCells_length, Nat.mul_one] at hn
  subst hn
  rcases hv with ⟨rfl, h0⟩ | ⟨g, cap, cur, rfl, hb, hg, hl, hm, hc, ht⟩
  · have : l = [] := List.eq_nil_of_length_eq_zero h0
    subst this
    exact ⟨none, 0, rfl, Nat.le_refl _, by unfold maxLen; omega, fun _ => rfl, fun i hi => by cases hi⟩
  · refine ⟨_, cap, rfl, hl, hm, fun h => (by cases h), fun i hi => ⟨g, 0, rfl, hb, ?_⟩⟩
    refine cell_obj hg ?_
    have : (byteCells l)[i]? = some (.int .u8 (l[i].toNat : Int)) := by simp [byteCells, hi]
    rw [← ht, List.getElem?_take] at this
    split at this
    · simpa using this
    · cases this
theorem SliceOf.news (h : BytesIn S w v l) {a : Option Addr} {n c : Nat} (hv : v = .slice a n c) {ad : Addr} (ha : a = some ad) : ∀ j u, (byteCells l)[j]? = some u → w.cell? (ad.add j) = some u := by
  obtain ⟨a', c', hv', _, _, _, hx⟩ := h
  subst hv
  simp only [Value.slice.injEq] at hv'
  obtain ⟨rfl, -, -⟩ := hv'
  intro j u hu
  have hj : j < l.length := by have := (List.getElem?_eq_some_iff.1 hu).1; rwa [byteCells_length] at this
  obtain ⟨b, o, hb, _, hat⟩ := hx j hj
  have e : a = some ad := ha
  rw [hb] at e
  simp only [Option.some.injEq] at e
  subst e
  rw [add_none rfl]
  have hat' : w.cell? ⟨b, o + j * 1, none⟩ = some (.int .u8 (l[j].toNat : Int)) := hat
  rw [Nat.mul_one] at hat'
  rw [hat']
  simp [byteCells, hj] at hu
  rw [hu]

theorem bytes_obj {g n c : Nat} {t : TypeId} {f : Nat × Nat} {l : List UInt8} (h : w.heap[g]? = some (.cells (byteCells l).toArray t f)) (hn : l.length = n) (hc : n ≤ c) (hm : c ≤ maxLen) (hS : S g) : BytesIn S w (.slice (some ⟨g, 0, none⟩) n c) l := by
  subst hn
  refine ⟨_, c, rfl, hc, hm, fun h => (by cases h), fun i hi => ⟨g, 0, rfl, hS, ?_⟩⟩
  refine cell_obj h ?_
  simp [byteCells, hi]
theorem bytes_nil (S : Nat → Prop) (w : World) : BytesIn S w (.slice none 0 0) [] := ⟨none, 0, rfl, Nat.le_refl _, by unfold maxLen; omega, fun _ => rfl, fun i hi => by cases hi⟩
theorem bytes_empty (S : Nat → Prop) (w : World) (a : Option Addr) (c : Nat) (hc : c ≤ maxLen) (ha : a = none → c = 0) : BytesIn S w (.slice a 0 c) [] := ⟨a, c, rfl, Nat.zero_le _, hc, ha, fun i hi => by cases hi⟩
theorem bytes_from {b o n c k : Nat} (h : BytesIn S w (.slice (some ⟨b, o, none⟩) n c) l) (hk : k < c) (hl : k ≤ l.length) : BytesIn S w (.slice (some ⟨b, o + k, none⟩) (n - k) (c - k)) (l.drop k) := by
  have := h.sub k l.length hl (Nat.le_refl _)
  obtain ⟨a', c', hv, -⟩ := h
  simp only [Value.slice.injEq] at hv
  obtain ⟨-, rfl, rfl⟩ := hv
  rw [List.take_length] at this
  unfold sliced at this
  rw [if_neg (by omega)] at this
  simp only [Option.map_some] at this
  rw [add_none rfl, Nat.mul_one] at this
  exact this
theorem bytes_mid {b o n c lo hi : Nat} (h : BytesIn S w (.slice (some ⟨b, o, none⟩) n c) l) (hk : lo < c) (h1 : lo ≤ hi) (h2 : hi ≤ l.length) : BytesIn S w (.slice (some ⟨b, o + lo, none⟩) (hi - lo) (c - lo)) ((l.take hi).drop lo) := by
  have := h.sub lo hi h1 h2
  unfold sliced at this
  rw [if_neg (by omega)] at this
  simp only [Option.map_some] at this
  rw [add_none rfl, Nat.mul_one] at this
  exact this
theorem bytes_none {a : Option Addr} {n c lo hi : Nat} (h : BytesIn S w (.slice a n c) l) (hk : lo = c) (h1 : lo ≤ hi) (h2 : hi ≤ l.length) : BytesIn S w (.slice a (hi - lo) (c - lo)) ((l.take hi).drop lo) := by
  have := h.sub lo hi h1 h2
  unfold sliced at this
  rw [if_pos hk.symm] at this
  exact this
end

section
variable {H : Type} {P : Program} {enc : TypeId × Value → H} {w : World} {base : Nat} {spare : Nat → Bool} {held : Bool}
/-- bytes that came in. -/
theorem open_bytes {tS e : TypeId} {fuel : Nat} {cs : List Value} {d : DataW H} {pl : List MemPlace} (ht : P.underlying tS = some (.slice e)) (he : P.underlying e = some (.int .u8)) (hC : P.cellsOf e = 1)
    (h : DataW.trod enc P w base spare held fuel tS cs = some (d, pl)) (hf : Fits P tS d) : ∃ v l, cs = [v] ∧ IsBytes w v l ∧ l.length * P.bytesOf e ≤ reachBytes := by
  obtain ⟨v, l, h1, h2, _, h4⟩ := open_list (At := ByteAt) (Good := fun _ => True) (size := 1) ht hC (by decide) (fun n cs' d pl ht' hf _ => by
    obtain ⟨k, q0, _, hw⟩ := DataW.trod_int he (show DataW.trod enc P w base spare held n e [cs'[0]'(by omega)] = some (d, pl) by
      rw [show [cs'[0]'(by omega)] = cs' from by
        obtain ⟨c0, rfl⟩ := list_one' ‹cs'.length = 1›
        rfl]
      exact ht')
    have hk : 0 ≤ k ∧ k < 256 := by
      simp [Lit.wf, IntKind.min, IntKind.max, IntKind.bits, IntKind.signed] at hw
      omega
    refine ⟨UInt8.ofNat k.toNat, trivial, fun b o hc => ?_⟩
    obtain ⟨c0, rfl⟩ := list_one' ‹cs'.length = 1›
    have := hc 0 c0 rfl
    simp only [List.getElem_cons_zero, List.cons.injEq, and_true] at q0
    subst q0
    unfold ByteAt
    rw [Nat.add_zero] at this
    rw [this]
    congr 2
    rw [UInt8.toNat_ofNat']
    omega) h hf
  exact ⟨v, l, h1, h2, h4⟩
end
end Go.Proofs.YtgcnchmnciihnaaGreatDoor
namespace Go.Proofs.YtgcnchmnciihnaaGreatDoor
set_option linter.unusedSimpArgs false
set_option linter.unusedVariables false
open Go Go.RowKit

/-- seven bits a byte, the low ones first. -/
def encN : Nat → Nat → List UInt8
  | 0, u => [UInt8.ofNat u]
  | k + 1, u => if u < 128 then [UInt8.ofNat u] else UInt8.ofNat (u % 128 + 128) :: encN k (u / 128)
theorem encN_stable : ∀ (k u : Nat), u < 128 ^ (k + 1) → encN k u = encN (k + 1) u
  | 0, u, h => by
    have h' : u < 128 := by simpa using h
    simp [encN, h']
  | k + 1, u, h => by
    by_cases hu : u < 128
    · simp [encN, hu]
    · have h' : u / 128 < 128 ^ (k + 1) := Nat.div_lt_of_lt_mul (by rw [Nat.pow_succ] at h; omega)
      have ih := encN_stable k (u / 128) h'
      rw [encN, encN, if_neg hu, if_neg hu, ih]
def encU (u : Nat) : List UInt8 := encN 10 u
theorem encU_lt {u : Nat} (h : u < 128) : encU u = [UInt8.ofNat u] := by rw [encU, encN, if_pos h]
theorem encU_ge {u : Nat} (h : ¬ u < 128) (h64 : u < 2 ^ 64) : encU u = UInt8.ofNat (u % 128 + 128) :: encU (u / 128) := by
  have e : encN 9 (u / 128) = encN 10 (u / 128) := encN_stable 9 _ (by omega)
  rw [encU, encN, if_neg h, e]
  rfl
theorem encN_length : ∀ (k u : Nat), (encN k u).length ≤ k + 1
  | 0, u => by simp [encN]
  | k + 1, u => by
    rw [encN]
    split
    · simp
    · have := encN_length k (u / 128)
      simp only [List.length_cons]; omega
theorem encU_length (u : Nat) : (encU u).length ≤ 11 := encN_length 10 u
/-- a number with its sign in the lowest bit. -/
def zz (n : Int) : Nat := if 0 ≤ n then (2 * n).toNat else (-2 * n - 1).toNat
def encInt (n : Int) : List UInt8 := encU (zz n)
theorem encInt_length (n : Int) : (encInt n).length ≤ 11 := encU_length _
theorem zz_lt {n : Int} (h1 : -9223372036854775808 ≤ n) (h2 : n ≤ 9223372036854775807) : zz n < 2 ^ 64 := by
  unfold zz; split <;> omega
def encText (s : ByteArray) : List UInt8 := encInt s.size ++ s.data.toList
def encVal (x : Val) : List UInt8 :=
  UInt8.ofNat (x.k % 256).toNat :: (if x.k = 1 ∨ x.k = 2 then encInt x.n else if x.k = 3 then encText x.t else [])
def encVals (l : List Val) : List UInt8 := l.flatMap encVal
def encRow (r : Row) : List UInt8 := encInt r.time ++ encInt r.vals.length ++ encVals r.vals
def encRowList (l : List Row) : List UInt8 := l.flatMap encRow
def encRows (l : List Row) : List UInt8 := encInt l.length ++ encRowList l
theorem encVals_take {l : List Val} {k : Nat} (h : k < l.length) : encVals (l.take (k + 1)) = encVals (l.take k) ++ encVal l[k] := by
  rw [List.take_succ_eq_append_getElem h, encVals, List.flatMap_append]; simp [encVals]
theorem encRowList_take {l : List Row} {k : Nat} (h : k < l.length) : encRowList (l.take (k + 1)) = encRowList (l.take k) ++ encRow l[k] := by
  rw [List.take_succ_eq_append_getElem h, encRowList, List.flatMap_append]; simp [encRowList]
theorem byteCells_append (l m : List UInt8) : byteCells (l ++ m) = byteCells l ++ byteCells m := by simp [byteCells]

theorem bits_xor_u64 (a b : Nat) (ha : a < 2 ^ 64) (hb : b < 2 ^ 64) : bits .xor .u64 a b = ((a ^^^ b : Nat) : Int) := bits_xor_u64_nat a b ha hb
theorem xor_ones (a : Nat) (h : a < 2 ^ 64) : a ^^^ (2 ^ 64 - 1) = 2 ^ 64 - 1 - a := by
  have h1 := congrArg BitVec.toNat (BitVec.xor_allOnes (x := BitVec.ofNat 64 a))
  rw [BitVec.toNat_xor, BitVec.toNat_not, BitVec.toNat_ofNat, BitVec.toNat_allOnes, Nat.mod_eq_of_lt h] at h1
  exact h1
/-- bits of one byte. -/
theorem or128 (u : Nat) : bits .or .u8 (IntKind.u8.wrap (u : Int)) 128 = ((UInt8.ofNat (u % 128 + 128)).toNat : Int) := by
  have hw : IntKind.u8.wrap (u : Int) = ((u % 256 : Nat) : Int) := by rw [IntKind.wrap_u8]; omega
  rw [hw]
  have h := (bits_nat .u8 8 (by decide) wraps_u8 (u % 256) 128 (by omega) (by decide)).2
  have e : ((128 : Nat) : Int) = 128 := rfl
  rw [e] at h
  rw [h]
  have hd : ∀ x : Fin 256, x.val ||| 128 = x.val % 128 + 128 := by decide +kernel
  have hd' := hd ⟨u % 256, by omega⟩
  simp only at hd'
  rw [hd', UInt8.toNat_ofNat']
  omega
/-- what the program's first step makes of a number. -/
theorem zz_eq_pos {n : Int} (h0 : 0 ≤ n) (h2 : n ≤ 9223372036854775807) : (zz n : Int) = 2 * n := by unfold zz; rw [if_pos h0]; omega
theorem zz_eq_neg {n : Int} (h0 : n < 0) : (zz n : Int) = -2 * n - 1 := by unfold zz; rw [if_neg (by omega)]; omega
theorem zz_walk {n : Int} (h1 : -9223372036854775808 ≤ n) (h2 : n ≤ 9223372036854775807) :
    bits .xor .u64 (IntKind.u64.wrap (IntKind.u64.wrap n * 2)) (IntKind.u64.wrap (n / 9223372036854775808)) = (zz n : Int) := by
  simp only [IntKind.wrap_u64]
  by_cases h0 : 0 ≤ n
  · have hz := zz_eq_pos h0 h2
    have e1 : n % 18446744073709551616 * 2 % 18446744073709551616 = ((zz n : Nat) : Int) := by omega
    have e2 : n / 9223372036854775808 % 18446744073709551616 = ((0 : Nat) : Int) := by omega
    rw [e1, e2, bits_xor_u64 _ _ (zz_lt h1 h2) (by decide), Nat.xor_zero]
  · have hz := zz_eq_neg (n := n) (by omega)
    have hl := zz_lt h1 h2
    have e1 : n % 18446744073709551616 * 2 % 18446744073709551616 = ((2 ^ 64 - 1 - zz n : Nat) : Int) := by omega
    have e2 : n / 9223372036854775808 % 18446744073709551616 = ((2 ^ 64 - 1 : Nat) : Int) := by omega
    rw [e1, e2, bits_xor_u64 _ _ (by omega) (by decide), xor_ones _ (by omega)]
    omega
theorem zz_ref {n : Int} (h1 : -9223372036854775808 ≤ n) (h0 : n < 0) : bits .xor .u64 IntKind.u64.max (IntKind.u64.wrap (IntKind.u64.wrap n * 2)) = (zz n : Int) := by
  have hz := zz_eq_neg (n := n) h0
  have hl := zz_lt h1 (by omega)
  have em : IntKind.u64.max = ((2 ^ 64 - 1 : Nat) : Int) := by decide
  have e1 : IntKind.u64.wrap (IntKind.u64.wrap n * 2) = ((2 ^ 64 - 1 - zz n : Nat) : Int) := by simp only [IntKind.wrap_u64]; omega
  rw [em, e1, bits_xor_u64 _ _ (by decide) (by omega), Nat.xor_comm, xor_ones _ (by omega)]
  omega
theorem encN_pos : ∀ k u, 0 < (encN k u).length
  | 0, _ => by simp [encN]
  | k + 1, u => by rw [encN]; split <;> simp
theorem encInt_pos (n : Int) : 0 < (encInt n).length := encN_pos 10 _
theorem encRows_pos (l : List Row) : 0 < (encRows l).length := by have := encInt_pos (l.length : Int); rw [encRows, List.length_append]; omega
theorem strB_append (l m : List UInt8) : strB l ++ strB m = strB (l ++ m) := by
  apply ByteArray.ext
  apply Array.ext'
  simp [strB]
end Go.Proofs.YtgcnchmnciihnaaGreatDoor
