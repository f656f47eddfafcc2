/-
  PROVED HERE: what a Reader's numbers and values come to, whatever it is; loops that count down.
  PROVED HERE: a store's map of cells: what it holds, cell by cell; looking up, storing; its length. No program of its own.
  PROVED HERE: the contract of value.ValidRow.
-/
import Derived.Test.YtgcnchmnciihnaaGreatDoorGReaderValue
import Derived.Test.YtgcnchmnciihnaaGreatDoorGWinPlain
import Derived.Test.YtgcnchmnciihnaaGreatDoorGPutLaws
import Derived.Test.YtgcnchmnciihnaaGreatDoorGShow
import Derived.DeepKeys4
import Derived.WideKeyEntry
import Derived.Test.YtgcnchmnciihnaaGreatDoorGRefQuote
namespace Go.Proofs.YtgcnchmnciihnaaGreatDoor
set_option linter.unusedSimpArgs false
set_option linter.unusedVariables false
open Go.RowKit

theorem dFill_len {k : Int} {l r : List UInt8} {v : Val} (h : dFill k l = some (v, r)) : r.length ≤ l.length := by
  unfold dFill at h
  split at h
  · obtain ⟨⟨n, r'⟩, h1, h2⟩ := Option.map_eq_some_iff.1 h
    simp only [Prod.mk.injEq] at h2
    have := dInt_len h1
    rw [← h2.2]; omega
  · split at h
    · obtain ⟨⟨n, r'⟩, h1, h2⟩ := Option.map_eq_some_iff.1 h
      simp only [Prod.mk.injEq] at h2
      have := dText_len h1
      rw [← h2.2]; omega
    · simp only [Option.some.injEq, Prod.mk.injEq] at h
      rw [h.2]; exact Nat.le_refl _
theorem dVal_len (l : List UInt8) (x : Val) (r : List UInt8) (h : dVal l = some (x, r)) : r.length < l.length := by
  cases l with
  | nil => cases h
  | cons c l =>
    simp only [dVal] at h
    cases hf : dFill c.toNat l with
    | none => rw [hf] at h; cases h
    | some p =>
      obtain ⟨v, r'⟩ := p
      rw [hf] at h
      simp only at h
      split at h
      · simp only [Option.some.injEq, Prod.mk.injEq] at h
        have := dFill_len hf
        rw [← h.2, List.length_cons]; omega
      · cases h
/-- a counter that goes down, round and round. -/
theorem count_less {c : Int} (h1 : -9223372036854775808 ≤ c) (h2 : c ≤ 9223372036854775807) (h0 : ¬ c = 0) : (wrap64 (c - 1) % 18446744073709551616).toNat < (c % 18446744073709551616).toNat := by
  unfold wrap64
  omega
theorem count_next {n c : Int} {m : Nat} (h : c = wrap64 (n - m)) : wrap64 (c - 1) = wrap64 (n - (m + 1 : Nat)) := by
  rw [h]; unfold wrap64; omega
theorem count_end {n : Int} {m : Nat} (h1 : -9223372036854775808 ≤ n) (h2 : n ≤ 9223372036854775807) (hm : m ≤ 1099511627776) (h : 0 = wrap64 (n - m)) : n = m := by
  unfold wrap64 at h; omega
theorem count_on {n c : Int} {m : Nat} (h : c = wrap64 (n - m)) (h0 : ¬ c = 0) : n ≠ m := by
  rintro rfl
  apply h0
  rw [h]; unfold wrap64; omega
theorem count_in {n c : Int} {m : Nat} (h : c = wrap64 (n - m)) : -9223372036854775808 ≤ c ∧ c ≤ 9223372036854775807 := by
  rw [h]; unfold wrap64; omega
section
variable {P : Program} {md : Region.Mode} {ops : Array Oper} {Q : Exit → Act → World → Prop}
/-- one operation alone is ready. -/
theorem wpAny_next {i : Nat} {o : Oper} {rest : List Oper} {fuel : Nat} {listed : Array Bool} {a : Act} {w : World} (hr : Region.ready md ops listed = [i]) (ho : ops[i]? = some o)
    (hk : ∀ a w, wpList P ops Q rest a w → wpAny P md ops Q fuel (listed.setIfInBounds i true) a w) (h : wpList P ops Q (o :: rest) a w) : wpAny P md ops Q (fuel + 1) listed a w := by
  refine wpAny_all hr (by simp) fun j hj => ?_
  obtain rfl : j = i := by simpa using hj
  refine wpOp_mono hk ?_
  unfold wpOp
  rw [ho]
  exact h
end
theorem infoVl : ElemInfo Tryz.prog 52 3 32 := ElemInfo.of infoVal rfl (by decide)
theorem own_keep {S : Nat → Prop} {w w' : World} {B s n : Nat} {e : TypeId} {v : Value} {xs : List Value} (h : w.ownsRow B e s v n xs) (k : Keeps S w w') (hs : ∀ b, B ≤ b → b < w.heap.size → S b) : w'.ownsRow B e s v n xs := by
  refine ⟨h.1, h.2.imp id fun ⟨g, cap, cur, h1, h2, h3, h4⟩ => ⟨g, cap, cur, h1, h2, ?_, h4⟩⟩
  exact k.obj (hs g h2 (Array.getElem?_eq_some_iff.1 h3).1) h3
theorem RdB.keep {S : Nat → Prop} {w w' : World} {R : Nat} {bad : Bool} {l : List UInt8} (h : RdB w R bad l) (k : Keeps S w w') (hs : ∀ b, b ≤ R → S b) : RdB w' R bad l := by
  obtain ⟨v, h1, h2⟩ := h
  exact ⟨v, k.obj (hs _ (Nat.le_refl _)) h1, h2.bytes_kept k fun b hb => hs b (Nat.le_of_lt hb)⟩
theorem Keeps.low {S : Nat → Prop} {a b c : World} (h : Keeps S a b) (k : Keeps (fun x => x < a.heap.size) b c) : Keeps S a c :=
  ((h.mono (S' := fun x => S x ∧ x < a.heap.size) fun _ _ hx => hx.1).trans (k.mono fun _ _ hx => hx.2)).mono fun _ hx hs => ⟨hs, hx⟩
theorem valCells_snoc (ys : List Val) (x : Val) : valCells (ys ++ [x]) = valCells ys ++ x.cells := by simp [valCells]
theorem val_one (x : Val) : ∀ u ∈ [Value.int .i64 x.k, .int .i64 x.n, .string x.t], u.oneCell' = true := by
  intro u hu
  simp only [List.mem_cons, List.not_mem_nil, or_false] at hu
  rcases hu with rfl | rfl | rfl <;> rfl
/-- what Int comes to, whatever the reader. -/
def IntAny (w : World) (R : Nat) (bad : Bool) (l : List UInt8) (e : Ending) (w' : World) : Prop :=
  ∃ t bad' r, e = .returned (.int .i64 t) ∧ RdB w' R bad' r ∧ Keeps (fun b => b ≠ R) w w' ∧ (bad' = false → bad = false ∧ dInt l = some (t, r)) ∧ (bad' = true → t = 0 ∧ (bad = true ∨ dInt l = none)) ∧ -9223372036854775808 ≤ t ∧ t ≤ 9223372036854775807
theorem read_int_any (R : Nat) (bad : Bool) (l : List UInt8) (w : World) (h : RdB w R bad l) : Calls Tryz.prog 52 #[.pointer (some ⟨R, 0, none⟩)] w (IntAny w R bad l) := by
  cases bad with
  | true =>
    refine (read_int_bad R l w h).mono ?_
    rintro e w1 ⟨rfl, hr, hk⟩
    exact ⟨0, true, l, rfl, hr, hk, fun h => (by cases h), fun _ => ⟨rfl, .inl rfl⟩, by decide, by decide⟩
  | false =>
    refine (read_int R l w h).mono ?_
    rintro e w1 ⟨hk, hT⟩
    cases hd : dInt l with
    | none =>
      rw [hd] at hT
      obtain ⟨rfl, r, hr⟩ := hT
      exact ⟨0, true, r, rfl, hr, hk, fun h => (by cases h), fun _ => ⟨rfl, .inr hd⟩, by decide, by decide⟩
    | some p =>
      obtain ⟨n, r⟩ := p
      rw [hd] at hT
      obtain ⟨rfl, hr⟩ := hT
      exact ⟨n, false, r, rfl, hr, hk, fun _ => ⟨rfl, hd⟩, fun h => (by cases h), (dInt_sound hd).2⟩
def ValAny (w : World) (R : Nat) (l : List UInt8) (e : Ending) (w' : World) : Prop :=
  ∃ (x : Val) (bad : Bool) (r : List UInt8), e = .returned x.v ∧ RdB w' R bad r ∧ Keeps (fun b => b ≠ R) w w' ∧ (bad = false → dVal l = some (x, r)) ∧ (bad = true → dVal l = none)
theorem read_value_any (R : Nat) (l : List UInt8) (w : World) (h : RdB w R false l) : Calls Tryz.prog 54 #[.pointer (some ⟨R, 0, none⟩)] w (ValAny w R l) := by
  refine (read_value R l w h).mono ?_
  rintro e w1 ⟨hk, hT⟩
  cases hd : dVal l with
  | none =>
    rw [hd] at hT
    obtain ⟨rfl, r, hr⟩ := hT
    exact ⟨zeroV, true, r, rfl, hr, hk, fun h => (by cases h), fun _ => hd⟩
  | some p =>
    obtain ⟨x, r⟩ := p
    rw [hd] at hT
    obtain ⟨rfl, hr⟩ := hT
    exact ⟨x, false, r, rfl, hr, hk, fun _ => hd, fun h => by cases h⟩

end Go.Proofs.YtgcnchmnciihnaaGreatDoor
namespace Go.Proofs.YtgcnchmnciihnaaGreatDoor
set_option linter.unusedSimpArgs false
set_option linter.unusedVariables false
open Go Go.RowKit Go.Maps

theorem psize : ∃ m, Tryz.prog.types.size = m + 2 := ⟨Tryz.prog.types.size - 2, by have h : 2 ≤ Tryz.prog.types.size := of_decide_eq_true (by kernel_rfl); omega⟩
theorem cells_place : Tryz.prog.cellsOf 65 = 3 := by kernel_rfl
theorem cells_str : Tryz.prog.cellsOf 9 = 1 := by kernel_rfl
theorem cells_win : Tryz.prog.cellsOf 34 = 2 := by kernel_rfl
theorem cells_i64 : Tryz.prog.cellsOf 2 = 1 := by kernel_rfl
theorem keyOf_place (s : ByteArray) (a b : Int) (hs : s.size ≤ maxLen) (ha : (Lit.int .i64 a).wf = true) (hb : (Lit.int .i64 b).wf = true) :
    keyOf Tryz.prog 65 (.agg #[.string s, .int .i64 a, .int .i64 b]) = some (.string (keyBytes [.string s.data.toList, .int .i64 a, .int .i64 b])) := by
  obtain ⟨m, hm⟩ := psize
  unfold keyOf
  simp only [Tryz.underlying65]
  rw [if_pos (by rw [Bool.and_eq_true]; exact ⟨by kernel_rfl, by kernel_rfl⟩)]
  unfold Program.keyLits
  simp only [Tryz.underlying65, Value.cells]
  rw [if_pos ⟨cells_place.symm, by kernel_rfl⟩, hm]
  simp only [List.mapM_cons, List.mapM_nil, cells_str, cells_win, List.drop_zero, List.take_succ_cons, List.take_zero, List.drop_succ_cons]
  unfold Program.keyLits
  simp only [Tryz.underlying9, Tryz.underlying34]
  rw [if_pos hs, if_pos ⟨cells_win.symm, by kernel_rfl⟩]
  simp only [List.mapM_cons, List.mapM_nil, cells_i64, List.drop_zero, List.take_succ_cons, List.take_zero, List.drop_succ_cons]
  unfold Program.keyLits
  simp only [Tryz.underlying2]
  rw [if_pos ⟨trivial, ha⟩, if_pos ⟨trivial, hb⟩]
  rfl
theorem placeLaw : WideMaps.KeyLaw Tryz.prog 65 := deep_law_laid (m := 9) (by kernel_rfl) (by decide) (of_decide_eq_true (by kernel_rfl)) (by kernel_rfl) (by kernel_rfl)
theorem placeKeyed : Keyed Tryz.prog 65 := Keyed.of_law placeLaw
theorem place_tiled : Tryz.prog.tiled 9 65 = true := by kernel_rfl

/-- what a key and a window must be to be looked up. -/
structure IdOk (i : Idn) : Prop where
  len : i.2.length ≤ 8
  val : ∀ x ∈ i.2, validV x = true
  ok : ∀ x ∈ i.2, ValOk x
  lo : (Lit.int .i64 i.1.1).wf = true
  hi : (Lit.int .i64 i.1.2).wf = true
def keyV (i : Idn) : Value := .agg #[.string (strB (encVals i.2)), .int .i64 i.1.1, .int .i64 i.1.2]
def litI (i : Idn) : Lit := .string (keyBytes [.string (encVals i.2), .int .i64 i.1.1, .int .i64 i.1.2])
theorem encVal_len {x : Val} (h : validV x = true) : (encVal x).length ≤ 100 := by
  have h1 := encInt_length x.n
  have h2 := encInt_length (x.t.size : Int)
  have e : x.t.data.toList.length = x.t.size := rfl
  unfold encVal
  by_cases h12 : x.k = 1 ∨ x.k = 2
  · rw [if_pos h12, List.length_cons]; omega
  · rw [if_neg h12]
    by_cases h3 : x.k = 3
    · have h4 : x.t.size ≤ 60 := by
        unfold validV at h
        rw [if_neg (by omega), if_neg (by omega), if_neg (by omega), if_pos h3, Bool.and_eq_true] at h
        exact of_decide_eq_true h.2
      rw [if_pos h3, List.length_cons]
      unfold encText
      rw [List.length_append, e]; omega
    · rw [if_neg h3]; simp
theorem encVals_len {l : List Val} (h : ∀ x ∈ l, validV x = true) : (encVals l).length ≤ 100 * l.length := by
  induction l with
  | nil => simp [encVals]
  | cons x l ih =>
    have h1 := encVal_len (h x List.mem_cons_self)
    have h2 := ih fun y hy => h y (List.mem_cons_of_mem _ hy)
    unfold encVals at *
    rw [List.flatMap_cons, List.length_append, List.length_cons]
    omega
theorem encVals_inj : ∀ {a b : List Val}, (∀ x ∈ a, validV x = true ∧ ValOk x) → (∀ x ∈ b, validV x = true ∧ ValOk x) → encVals a = encVals b → a = b
  | [], [], _, _, _ => rfl
  | [], y :: b, _, _, h => by
    unfold encVals encVal at h
    simp at h
  | x :: a, [], _, _, h => by
    unfold encVals encVal at h
    simp at h
  | x :: a, y :: b, ha, hb, h => by
    have h1 := ha x List.mem_cons_self
    have h2 := hb y List.mem_cons_self
    have e1 := dVal_enc h1.1 (valOk_int h1.2) (valOk_text h1.2) (encVals a)
    have e2 := dVal_enc h2.1 (valOk_int h2.2) (valOk_text h2.2) (encVals b)
    have h' : encVal x ++ encVals a = encVal y ++ encVals b := h
    rw [h', e2] at e1
    simp only [Option.some.injEq, Prod.mk.injEq] at e1
    rw [e1.1, encVals_inj (fun z hz => ha z (List.mem_cons_of_mem _ hz)) (fun z hz => hb z (List.mem_cons_of_mem _ hz)) e1.2.symm]
theorem IdOk.key {i : Idn} (h : IdOk i) : keyOf Tryz.prog 65 (keyV i) = some (litI i) := by
  have := keyOf_place (strB (encVals i.2)) i.1.1 i.1.2 (by rw [strB_size]; have h1 := encVals_len h.val; have h2 := h.len; unfold maxLen; omega) h.lo h.hi
  simpa [keyV, litI, strB] using this
theorem IdOk.inj {i j : Idn} (h : IdOk i) (k : IdOk j) (e : litI i = litI j) : i = j := by
  have h1 := h.key
  rw [e] at h1
  have h2 := keyOf_inj_deep place_tiled (by kernel_rfl) h1 k.key
  simp only [keyV, Value.agg.injEq, Array.mk.injEq, List.cons.injEq, Value.string.injEq, Value.int.injEq, true_and, and_true] at h2
  obtain ⟨h3, h4, h5⟩ := h2
  have h6 := encVals_inj (fun x hx => ⟨h.val x hx, h.ok x hx⟩) (fun x hx => ⟨k.val x hx, k.ok x hx⟩) (strB_inj h3)
  exact Prod.ext (Prod.ext h4 h5) h6
theorem litI_is (i : Idn) : WideAt.IsKeyLit (litI i) := trivial

/-- a cell as a value; its key and its data stand in blocks of a sort. -/
def CellV (V : Nat → Prop) (w : World) (u : Value) (c : CellP) : Prop :=
  ∃ kv dv, u = .agg #[kv, .int .i64 c.win.1, .int .i64 c.win.2, dv] ∧ ValsIn V w kv c.key ∧ BytesIn V w dv c.data
theorem CellV.kept {V K : Nat → Prop} {w w' : World} {u : Value} {c : CellP} (h : CellV V w u c) (k : Keeps K w w') (hs : ∀ b, V b → b < w.heap.size → K b) : CellV V w' u c := by
  obtain ⟨kv, dv, rfl, h1, h2⟩ := h
  refine ⟨kv, dv, rfl, ?_, ?_⟩
  · exact SliceOf.map h1 fun b o x hb hx => ⟨hb, hx.kept (hs b hb (cell_lt hx.1)) k⟩
  · exact SliceOf.map h2 fun b o x hb hx => ⟨hb, ByteAt.kept hx (hs b hb (cell_lt hx)) k⟩
theorem CellV.later {V : Nat → Prop} {w w' : World} {u : Value} {c : CellP} (h : CellV V w u c) (k : Later w w') : CellV V w' u c := h.kept (k.keeps fun _ => True) fun _ _ _ => trivial
theorem CellV.mono {V V' : Nat → Prop} {w : World} {u : Value} {c : CellP} (h : CellV V w u c) (hs : ∀ b, V b → b < w.heap.size → V' b) : CellV V' w u c := by
  obtain ⟨kv, dv, rfl, h1, h2⟩ := h
  exact ⟨kv, dv, rfl, SliceOf.map h1 fun b o x hb hx => ⟨hs b hb (cell_lt hx.1), hx⟩, SliceOf.map h2 fun b o x hb hx => ⟨hs b hb (cell_lt hx), hx⟩⟩
/-- block M is a map that holds the cells of L. -/
def CellsMap (V : Nat → Prop) (w : World) (M : Nat) (L : List CellP) : Prop :=
  ∃ D : DataW Value, w.ownsMap Tryz.prog 65 rawR M L.length D ∧ size D = L.length ∧ (∀ kl, has D kl = true → ∃ c ∈ L, litI (idC c) = kl) ∧
    ∀ c ∈ L, has D (litI (idC c)) = true ∧ ∃ u, CellV V w u c ∧ ∀ z, D.atKey (litI (idC c)) z = .held u
section
variable {V V' : Nat → Prop} {w w' : World} {M : Nat} {L : List CellP}
theorem CellsMap.lt (h : CellsMap V w M L) : M < w.heap.size := let ⟨_, h, _⟩ := h; h.lt
theorem CellsMap.kept {K : Nat → Prop} (h : CellsMap V w M L) (k : Keeps K w w') (hM : K M) (hs : ∀ b, V b → b < w.heap.size → K b) : CellsMap V w' M L := by
  obtain ⟨D, ⟨es, clock, hb, F, hz, hD⟩, hn, hk, hc⟩ := h
  exact ⟨D, ⟨es, clock, k.obj hM hb, F, hz, hD⟩, hn, hk, fun c h => let ⟨h1, u, h2, h3⟩ := hc c h; ⟨h1, u, h2.kept k hs, h3⟩⟩
theorem CellsMap.later (h : CellsMap V w M L) (k : Later w w') : CellsMap V w' M L := h.kept (k.keeps fun _ => True) trivial fun _ _ _ => trivial
theorem CellsMap.mono (h : CellsMap V w M L) (hs : ∀ b, V b → b < w.heap.size → V' b) : CellsMap V' w M L := by
  obtain ⟨D, h0, hn, hk, hc⟩ := h
  exact ⟨D, h0, hn, hk, fun c h => let ⟨h1, u, h2, h3⟩ := hc c h; ⟨h1, u, h2.mono hs, h3⟩⟩
theorem CellsMap.made (V : Nat → Prop) (w : World) : CellsMap V (w.alloc (.map #[] 0)) w.heap.size [] := ⟨.map [], World.ownsMap_made _ _ _ _, rfl, fun kl h => (by cases h), fun c h => (by cases h)⟩
theorem owns_exact {P : Program} {k : TypeId} {R : Value → Option (DataW Value × List MemPlace)} {b n : Nat} {D : DataW Value} (h : w.ownsMap P k R b n D) : w.ownsMap P k R b (size D) D := by
  obtain ⟨es, clock, hb, F, hz, hD⟩ := h
  refine ⟨es, clock, hb, F, ?_, hD⟩
  rw [hD, size_eq, length_sorted]
  simp
def zeroCell : Value := .agg #[.slice none 0 0, .int .i64 0, .int .i64 0, .slice none 0 0]
theorem zero_cell (w : World) : (zeroValue 57).run Tryz.prog w = .ok zeroCell w := Tryz.zeroValue57 w
/-- looking up. -/
theorem CellsMap.look (h : CellsMap V w M L) (hL : ∀ c ∈ L, IdOk (idC c)) {i : Idn} (hi : IdOk i) :
    ∃ u b, (Instr.lookup 60 (.map (some M)) (keyV i) true).run Tryz.prog w = .ok (.tuple #[u, .bool b]) w ∧
      ((b = true ∧ ∃ c ∈ L, idC c = i ∧ CellV V w u c) ∨ (b = false ∧ (∀ c ∈ L, idC c ≠ i) ∧ u = zeroCell)) := by
  obtain ⟨D, hown, hn, hk, hc⟩ := h
  obtain ⟨v, ps, hrun, hv⟩ := hown.look_ok placeKeyed Tryz.underlying60 (zero_cell w) (zd := .held zeroCell) (zp := []) rfl hi.key
  refine ⟨_, _, hrun, ?_⟩
  have h1 := rawR_inv hv
  cases hh : has D (litI i) with
  | true =>
    left
    obtain ⟨c, hcL, e⟩ := hk _ hh
    have e2 := (hL c hcL).inj hi e
    obtain ⟨-, u, h2, h3⟩ := hc c hcL
    rw [← e, h3, DataW.held.injEq] at h1
    exact ⟨rfl, c, hcL, e2, h1 ▸ h2⟩
  | false =>
    right
    refine ⟨rfl, fun c hcL e => ?_, ?_⟩
    · have := (hc c hcL).1
      rw [e, hh] at this; cases this
    · rw [atKey_of_not_has hh, DataW.held.injEq] at h1
      exact h1.symm
theorem length_parts (i : Idn) : ∀ l : List CellP, (l.filter fun x => decide (idC x = i)).length + (l.filter (notId i)).length = l.length
  | [] => rfl
  | c :: l => by
    have := length_parts i l
    unfold notId at *
    by_cases h : idC c = i
    · rw [List.filter_cons_of_pos (by simp [h]), List.filter_cons_of_neg (by simp [h]), List.length_cons, List.length_cons]; omega
    · rw [List.filter_cons_of_neg (by simp [h]), List.filter_cons_of_pos (by simp [h]), List.length_cons, List.length_cons]; omega
theorem ident_ne {c d : CellP} (hc : IdOk (idC c)) (hd : IdOk (idC d)) (h : idC c ≠ idC d) : litI (idC c) ≠ litI (idC d) := fun e => h (hc.inj hd e)
/-- the words of a map behind a store. -/
theorem CellsMap.stored {w1 : World} {D : DataW Value} {n : Nat} (hS : SortedC L) (hL : ∀ c ∈ L, IdOk (idC c)) (hown : w.ownsMap Tryz.prog 65 rawR M n D) (hn : size D = L.length) (hk : ∀ kl, has D kl = true → ∃ c ∈ L, litI (idC c) = kl)
    (hc : ∀ c ∈ L, has D (litI (idC c)) = true ∧ ∃ u, CellV V w1 u c ∧ ∀ z, D.atKey (litI (idC c)) z = .held u) {c : CellP} (hi : IdOk (idC c)) {u : Value} (hu : CellV V w1 u c)
    (h1 : w1.ownsMap Tryz.prog 65 rawR M (n + 1) (D.put (litI (idC c)) (.held u))) : CellsMap V w1 M (insC c L) := by
  have hT : Tidy D := by
    obtain ⟨es, e, hp, -⟩ := hown.entries placeKeyed
    exact ⟨es, e, hp⟩
  have hsz : size (D.put (litI (idC c)) (.held u)) = (insC c L).length := by
    rw [size_put hT, (insC_perm c hS).length_eq, List.length_cons, hn]
    cases hh : has D (litI (idC c)) with
    | true =>
      obtain ⟨d, hd, e⟩ := hk _ hh
      have e2 := (hL d hd).inj hi e
      have h2 : (L.filter fun x => decide (idC x = idC d)).length + (L.filter (notId (idC c))).length = L.length := by
        rw [← e2]
        exact length_parts _ L
      rw [filter_one hS hd] at h2
      simp only [if_true]
      simp only [List.length_singleton] at h2
      omega
    | false =>
      rw [weight_new fun d hd e => ?_]
      · simp
      · have := (hc d hd).1
        rw [e, hh] at this; cases this
  refine ⟨_, hsz ▸ owns_exact h1, hsz, fun kl hkl => ?_, fun x hx => ?_⟩
  · by_cases e : kl = litI (idC c)
    · exact ⟨c, (insC_mem hS).2 (.inl rfl), e.symm⟩
    · rw [has_put_other e] at hkl
      obtain ⟨d, hd, e2⟩ := hk _ hkl
      exact ⟨d, (insC_mem hS).2 (.inr ⟨hd, fun e3 => e (by rw [← e2, e3])⟩), e2⟩
  · rcases (insC_mem hS).1 hx with rfl | ⟨hx, hne⟩
    · exact ⟨has_put_same hT.isMap (litI_is _) _, u, hu, fun z => atKey_put_same hT.isMap (litI_is _) _ z⟩
    · have e := ident_ne (hL x hx) hi hne
      obtain ⟨g1, v, g2, g3⟩ := hc x hx
      exact ⟨by rw [has_put_other e]; exact g1, v, g2, fun z => by rw [atKey_put_other e]; exact g3 z⟩
theorem setBlock_twice (w : World) (b : Nat) (x y : Obj) : ChangeMaps.setBlock (ChangeMaps.setBlock w b x) b y = ChangeMaps.setBlock w b y := by
  unfold ChangeMaps.setBlock
  simp only [Array.setIfInBounds_setIfInBounds]
/-- the map's entry, and then the store into it. -/
theorem CellsMap.entry (h : CellsMap V w M L) (hS : SortedC L) (hL : ∀ c ∈ L, IdOk (idC c)) (hn : L.length < maxLen) {c : CellP} (hi : IdOk (idC c)) {u : Value} (hu : CellV V w u c) (hM : ¬ V M) :
    ∃ v0 st w1 w2, (Instr.mapEntry 60 (.map (some M)) (keyV (idC c))).run Tryz.prog w = .ok (.tuple #[v0, goInt st]) w1 ∧
      (Instr.entryStore 60 (.map (some M)) (goInt st) u).run Tryz.prog w1 = .ok () w2 ∧ CellsMap V w2 M (insC c L) ∧ Keeps (fun b => b ≠ M) w w1 ∧ Keeps (fun b => b ≠ M) w w2 := by
  obtain ⟨D, hown, hsz, hk, hc⟩ := h
  obtain ⟨w', hrun, hown', hgr⟩ := hown.update placeKeyed Tryz.underlying60 hn hi.key (val := u) (d := .held u) (ps := []) rfl
  have hown2 := hown
  obtain ⟨es, clock, hb, F, -, -⟩ := hown2
  obtain ⟨v0, st, es1, clock1, e1, -, e2⟩ := WideElems.entry_then_store placeLaw Tryz.underlying60 (fun w => zero_cell w) hb F hi.key
  obtain ⟨es', clock', e3, e4⟩ := e2 (ChangeMaps.setBlock w M (.map es1 clock1)) u (ChangeMaps.heap_setBlock_same hb _)
  rw [hrun] at e4
  simp only [Result.ok.injEq, true_and] at e4
  have hb1 := ChangeMaps.heap_setBlock_same hb (.map es1 clock1)
  have e5 := setBlock_twice w M (.map es1 clock1) (.map es' clock')
  have hgr1 : w.grownBy (ChangeMaps.setBlock w M (.map es1 clock1)) (some M) := ⟨rfl, rfl, rfl, by simp [ChangeMaps.setBlock], fun i _ hi => ChangeMaps.heap_setBlock_other hb _ (fun e => hi (by rw [e]))⟩
  have hk1 : Keeps (fun b => b ≠ M) w (ChangeMaps.setBlock w M (.map es1 clock1)) := (Keeps.of_grown hgr1).mono fun b _ hb e => hb (Option.some.inj e)
  have hk2 : Keeps (fun b => b ≠ M) w w' := (Keeps.of_grown hgr).mono fun b _ hb e => hb (Option.some.inj e)
  refine ⟨v0, st, _, w', e1, ?_, ?_, hk1, hk2⟩
  · rw [e3, e5, ← e4]
  · have hV : ∀ b, V b → b < w.heap.size → b ≠ M := fun b hb _ e => hM (e ▸ hb)
    exact CellsMap.stored (w := w) hS hL hown hsz hk (fun x hx => let ⟨g1, v, g2, g3⟩ := hc x hx; ⟨g1, v, g2.kept hk2 hV, g3⟩) hi (hu.kept hk2 hV) hown'
end
end Go.Proofs.YtgcnchmnciihnaaGreatDoor
namespace Go.Proofs.YtgcnchmnciihnaaGreatDoor
set_option linter.unusedSimpArgs false
set_option linter.unusedVariables false
open Go.RowKit

attribute [local go_sem high] run_eql_val' run_neq_val'
theorem odd_any (x : Val) (w : World) :
    Calls Tryz.prog 62 #[x.v] w fun e w' => e = .returned (.bool (!validV x)) ∧ Later w w' := by
  go_enter Tryz.func62, Tryz.ntmps62
  go_wp2_with (go_at_call 63; refine (valid_any x _).mono ?_; rintro e w2 ⟨rfl, hL2⟩)
  repeat (first | replace hL2 := Later.of_drew hL2 | replace hL2 := Later.of_drewN hL2 | replace hL2 := Later.of_alloc hL2)
  go_ret
  exact ⟨rfl, hL2⟩

def badAt (l : List Val) : Int := (l.findIdx? fun x => !validV x).elim (-1) (fun i => (i : Int))
theorem badAt_some {l : List Val} {n : Nat} (h : n < l.length) (hn : validV l[n] = false) (hb : ∀ j (h : j < l.length), j < n → validV l[j] = true) : badAt l = n := by
  unfold badAt
  have : l.findIdx? (fun x => !validV x) = some n := by
    rw [List.findIdx?_eq_some_iff_getElem]
    exact ⟨h, by simp [hn], fun j hj => by simp [hb j (by omega) hj]⟩
  rw [this]; rfl
theorem badAt_none {l : List Val} (hb : ∀ j (h : j < l.length), validV l[j] = true) : badAt l = -1 := by
  unfold badAt
  have : l.findIdx? (fun x => !validV x) = none := by
    rw [List.findIdx?_eq_none_iff]
    intro x hx
    obtain ⟨j, hj, rfl⟩ := List.getElem_of_mem hx
    simp [hb j hj]
  rw [this]; rfl
theorem badAt_nonneg (l : List Val) : decide (0 ≤ badAt l) = !(l.all validV) := by
  by_cases h : ∃ j, ∃ h : j < l.length, validV l[j] = false
  · have hf : (l.all validV) = false := by
      rw [Bool.eq_false_iff]; intro ha
      obtain ⟨j, hj, hv⟩ := h
      have := List.all_eq_true.1 ha l[j] (List.getElem_mem hj)
      rw [hv] at this; cases this
    unfold badAt
    cases hi : l.findIdx? (fun x => !validV x) with
    | none =>
      obtain ⟨j, hj, hv⟩ := h
      have := List.findIdx?_eq_none_iff.1 hi l[j] (List.getElem_mem hj)
      simp [hv] at this
    | some i => simp only [hf, Option.elim]; simp
  · have ha : ∀ j (h : j < l.length), validV l[j] = true := fun j hj => by
      cases hv : validV l[j] with
      | true => rfl
      | false => exact absurd ⟨j, hj, hv⟩ h
    have : l.all validV = true := List.all_eq_true.2 fun x hx => by obtain ⟨j, hj, rfl⟩ := List.getElem_of_mem hx; exact ha j hj
    rw [badAt_none ha, this]; rfl

theorem index_odd (l : List Val) (v : Value) (w : World) (hv : IsVals w v l) :
    Calls Tryz.prog 84 #[v, .func (.func 62) #[] #[]] w fun e w' => e = .returned (.int .i64 (badAt l)) ∧ Later w w' := by
  obtain ⟨p, c, rfl, hac, hcm, -, hea⟩ := hv
  unfold maxLen at hcm
  have HE := hid hea; clear hea
  go_enter Tryz.func84, Tryz.ntmps84
  go_wp2
  go_loopw [8] (fun i wr => ∃ n : Nat, n ≤ l.length ∧ i = .int .i64 n ∧ Later w wr ∧ Hid (∀ j (h : j < l.length), j < n → validV l[j] = true)) (fun i _ => l.length - (intOf i).toNat)
  case atStart => exact ⟨0, by omega, rfl, Later.refl _, fun j h h' => by omega⟩
  case round =>
    obtain ⟨n, hn1, rfl, hL, hq⟩ := hrel
    by_cases h1 : n < l.length
    · obtain ⟨b1, o1, rfl, -, e1⟩ := HE.out n h1
      obtain ⟨p1, p2, p3⟩ := e1.later hL
      clear e1
      have hb := hid (@badAt_some l n h1)
      have hx : ∃ x, x = l[n] := ⟨_, rfl⟩
      obtain ⟨x, hx⟩ := hx
      have HX := hid hx
      rw [← hx] at p1 p2 p3
      clear hx
      cases hc : validV x with
      | true =>
        have HC := hid hc
        go_wp2_with (go_at_call 62; refine (odd_any x _).mono ?_; rintro e w2 ⟨rfl, hL2⟩)
        repeat (first | replace hL2 := Later.of_drew hL2 | replace hL2 := Later.of_drewN hL2 | replace hL2 := Later.of_alloc hL2)
        go_roundw
        case rel =>
          refine ⟨n + 1, by omega, by go_num, Later.trans _ _ _ hL hL2, hid fun j h h' => ?_⟩
          by_cases hj : j = n
          · subst hj; rw [← HX.out]; exact HC.out
          · exact hq.out j h (by omega)
        case measure => simp [intOf]; omega
      | false =>
        have HC := hid hc
        go_wp2_with (go_at_call 62; refine (odd_any x _).mono ?_; rintro e w2 ⟨rfl, hL2⟩)
        repeat (first | replace hL2 := Later.of_drew hL2 | replace hL2 := Later.of_drewN hL2 | replace hL2 := Later.of_alloc hL2)
        go_ret
        exact ⟨ret_int (hb.out (by rw [← HX.out]; exact HC.out) hq.out).symm, Later.trans _ _ _ hL hL2⟩
    · have HR := hid (badAt_none (l := l) fun j h => hq.out j h (by omega))
      go_wp2
      go_ret
      exact ⟨ret_int HR.out.symm, hL⟩

theorem has_odd (l : List Val) (v : Value) (w : World) (hv : IsVals w v l) :
    Calls Tryz.prog 64 #[v, .func (.func 62) #[] #[]] w fun e w' => e = .returned (.bool (!(l.all validV))) ∧ Later w w' := by
  have HB := hid (badAt_nonneg l)
  go_enter Tryz.func64, Tryz.ntmps64
  go_wp2_with (go_at_call 84; refine (index_odd l v _ hv).mono ?_; rintro e w2 ⟨rfl, hL2⟩)
  go_ret
  exact ⟨ret_bool HB.out, hL2⟩

theorem valid_row (t : Int) (l : List Val) (v : Value) (w : World) (hv : IsVals w v l) :
    Calls Tryz.prog 35 #[.agg #[.int .i64 t, v]] w fun e w' => e = .returned (.bool (validR ⟨t, l⟩)) ∧ Later w w' := by
  have HV := hid hv
  obtain ⟨p, c, rfl, hac, hcm, -, hea⟩ := hv
  clear hea
  by_cases h0 : 0 ≤ t
  · by_cases h1 : t ≤ 1099511627776
    · by_cases h2 : l.length ≤ 8
      · have HR : Hid (validR ⟨t, l⟩ = !(!(l.all validV))) := hid (by simp [validR, h0, h1, h2])
        have h2' : decide ((l.length : Int) ≤ 8) = true := by simp; omega
        go_enter Tryz.func35, Tryz.ntmps35
        go_wp2_with (go_at_call 64; refine (has_odd l _ _ (HV.out.later (Later.alloc _ _))).mono ?_; rintro e w2 ⟨rfl, hL2⟩)
        repeat (first | replace hL2 := Later.of_drew hL2 | replace hL2 := Later.of_drewN hL2 | replace hL2 := Later.of_alloc hL2)
        go_ret
        exact ⟨ret_bool (by rw [HR.out, Bool.not_not]), hL2⟩
      · have HR : Hid (validR ⟨t, l⟩ = false) := hid (by simp [validR, h2])
        have h2' : decide ((l.length : Int) ≤ 8) = false := by simp; omega
        go_enter Tryz.func35, Tryz.ntmps35
        go_wp2
        go_ret
        exact ⟨ret_bool HR.out.symm, Later.alloc _ _⟩
    · have HR : Hid (validR ⟨t, l⟩ = false) := hid (by simp [validR, h1])
      go_enter Tryz.func35, Tryz.ntmps35
      go_wp2
      go_ret
      exact ⟨ret_bool HR.out.symm, Later.alloc _ _⟩
  · have HR : Hid (validR ⟨t, l⟩ = false) := hid (by simp [validR, h0])
    go_enter Tryz.func35, Tryz.ntmps35
    go_wp2
    go_ret
    exact ⟨ret_bool HR.out.symm, Later.alloc _ _⟩
end Go.Proofs.YtgcnchmnciihnaaGreatDoor
