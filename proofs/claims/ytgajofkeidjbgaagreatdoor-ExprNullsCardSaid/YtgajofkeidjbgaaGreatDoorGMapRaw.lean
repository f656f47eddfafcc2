/-
  PROVED HERE: a map of texts to slices, by what it holds at each text: looking up, storing, deleting in a walk. No program of its own.
  PROVED HERE: a map of keys of any sort to values, by what it holds at each key: looking up, storing, deleting in a walk; its keys. No program of its own.
  PROVED HERE: expr's table of functions: what it holds.
-/
import Derived.Test.YtgajofkeidjbgaaGreatDoorRows
import Derived.Test.YtgajofkeidjbgaaGreatDoorGData
import Derived.Test.YtgajofkeidjbgaaGreatDoorGOpen
import Derived.Maps.OwnSet
import Derived.Maps.Range
import Derived.Sort.KeysCollected
import Derived.StringKeys
import Derived.DeepKeys4
import Derived.Test.YtgajofkeidjbgaaGreatDoorGTabExpr
import Derived.Test.YtgajofkeidjbgaaGreatDoorGRegionK
namespace Go.Proofs.YtgajofkeidjbgaaGreatDoor
set_option linter.unusedSimpArgs false
set_option linter.unusedVariables false
open Go Go.RowKit Go.Maps

/-- an element reads as itself. -/
def rawR (v : Value) : Option (DataW Value × List MemPlace) := some (.held v, [])
theorem rawR_inv {v : Value} {d : DataW Value} {ps : List MemPlace} (h : rawR v = some (d, ps)) : d = .held v := by
  simp only [rawR, Option.some.injEq, Prod.mk.injEq] at h
  exact h.1.symm
def nilS : Value := .slice none 0 0
/-- block M is a map that holds f. -/
def MapAt (w : World) (M n : Nat) (f : List UInt8 → Option Value) : Prop :=
  ∃ D : DataW Value, w.ownsMap Tryz.prog 9 rawR M n D ∧ ∀ k, Maps.has D (.string k) = (f k).isSome ∧ ∀ z, D.atKey (.string k) z = match f k with
    | some v => .held v
    | none => z
def upd (f : List UInt8 → Option Value) (k : List UInt8) (o : Option Value) : List UInt8 → Option Value := fun x => if x = k then o else f x
theorem lawS : Keyed Tryz.prog 9 := string_keyed Tryz.underlying9
theorem keyS (k : List UInt8) (h : k.length ≤ maxLen) : keyOf Tryz.prog 9 (.string (strB k)) = some (.string k) := by
  have := WideMaps.keyOf_string_mk Tryz.underlying9 (s := strB k) (by rw [strB_size]; exact h)
  exact this
theorem MapAt.lt {w : World} {M n : Nat} {f : List UInt8 → Option Value} (h : MapAt w M n f) : M < w.heap.size := let ⟨_, h, _⟩ := h; h.lt
theorem MapAt.kept {S : Nat → Prop} {w w' : World} {M n : Nat} {f : List UInt8 → Option Value} (h : MapAt w M n f) (k : Keeps S w w') (hs : S M) : MapAt w' M n f := by
  obtain ⟨D, ⟨es, clock, hb, F, hz, hD⟩, hf⟩ := h
  exact ⟨D, ⟨es, clock, k.obj hs hb, F, hz, hD⟩, hf⟩
theorem MapAt.later {w w' : World} {M n : Nat} {f : List UInt8 → Option Value} (h : MapAt w M n f) (k : Later w w') : MapAt w' M n f := h.kept (k.keeps fun _ => True) trivial
theorem MapAt.mono {w : World} {M n m : Nat} {f : List UInt8 → Option Value} (h : MapAt w M n f) (hn : n ≤ m) : MapAt w M m f := let ⟨D, h, hf⟩ := h; ⟨D, h.mono hn, hf⟩
theorem str_key {k x : List UInt8} (h : x ≠ k) : (Lit.string x) ≠ Lit.string k := fun e => h (by injection e)
theorem MapAt.made (w : World) : MapAt (w.alloc (.map #[] 0)) w.heap.size 0 (fun _ => none) := ⟨.map [], World.ownsMap_made _ _ _ _, fun k => ⟨rfl, fun z => rfl⟩⟩

section
variable {mt et : TypeId} (ht : Tryz.prog.underlying mt = some (.map 9 et)) (hz : ∀ w, (zeroValue et).run Tryz.prog w = .ok (.slice none 0 0) w)
include ht
variable {w : World} {M n : Nat} {f : List UInt8 → Option Value} {ops : Array Oper} {rest : List Oper} {o : Oper} {a : Act} {Q : Exit → Act → World → Prop}
include hz in
theorem MapAt.look (hM : MapAt w M n f) (k : List UInt8) (hk : k.length ≤ maxLen) : (Instr.lookup mt (.map (some M)) (.string (strB k)) true).run Tryz.prog w = .ok (.tuple #[(f k).getD nilS, .bool (f k).isSome]) w := by
  obtain ⟨D, hown, hf⟩ := hM
  obtain ⟨v, ps, hrun, hv⟩ := hown.look_ok lawS ht (hz w) (zd := .held nilS) (zp := []) rfl (keyS k hk)
  rw [hrun]
  have h1 := rawR_inv hv
  obtain ⟨h2, h3⟩ := hf k
  rw [h3] at h1
  rw [h2]
  cases hfk : f k with
  | none =>
    rw [hfk] at h1
    simp only [DataW.held.injEq] at h1
    rw [← h1]
    rfl
  | some u =>
    rw [hfk] at h1
    simp only [DataW.held.injEq] at h1
    rw [← h1]
    rfl
include hz in
theorem wpList_map_ok (hg : o.guard = none) (m x : Operand) (hop : o.op = Op.lookup mt m x true) (hm : a.eval m = .map (some M)) (hM : MapAt w M n f) (k : List UInt8) (hk : k.length ≤ maxLen) (hx : a.eval x = .string (strB k))
    (hK : wpList Tryz.prog ops Q rest (a.put o.dst (.tuple #[(f k).getD nilS, .bool (f k).isSome])) w) : wpList Tryz.prog ops Q (o :: rest) a w := by
  obtain ⟨D, hown, hf⟩ := hM
  refine wpList_lookup_own_ok w hg m x mt hop 9 et lawS ht rawR (hz w) (.held nilS) [] rfl M n D hm hown _ (.string k) hx (keyS k hk) fun v ps hv => ?_
  have h1 := rawR_inv hv
  obtain ⟨h2, h3⟩ := hf k
  rw [h3] at h1
  rw [h2]
  cases hfk : f k with
  | none =>
    rw [hfk] at h1 hK
    simp only [DataW.held.injEq] at h1
    rw [← h1]
    exact hK
  | some u =>
    rw [hfk] at h1 hK
    simp only [DataW.held.injEq] at h1
    rw [← h1]
    exact hK
include hz in
theorem wpList_map_get (hg : o.guard = none) (m x : Operand) (hop : o.op = Op.lookup mt m x false) (hm : a.eval m = .map (some M)) (hM : MapAt w M n f) (k : List UInt8) (hk : k.length ≤ maxLen) (hx : a.eval x = .string (strB k))
    (hK : wpList Tryz.prog ops Q rest (a.put o.dst ((f k).getD nilS)) w) : wpList Tryz.prog ops Q (o :: rest) a w := by
  obtain ⟨D, hown, hf⟩ := hM
  obtain ⟨v, ps, hrun, hv⟩ := hown.lookup lawS ht (hz w) (zd := .held nilS) (zp := []) rfl (keyS k hk)
  refine wpList_plain hg fun K' hK' => ?_
  unfold Oper.wp
  simp only [execOp, hop, hm, hx]
  simp [hrun, Result.andThen]
  refine hK' _ _ ?_
  have h1 := rawR_inv hv
  rw [(hf k).2] at h1
  cases hfk : f k with
  | none =>
    rw [hfk] at h1 hK
    simp only [DataW.held.injEq] at h1
    rw [← h1]
    exact hK
  | some u =>
    rw [hfk] at h1 hK
    simp only [DataW.held.injEq] at h1
    rw [← h1]
    exact hK
theorem wpList_map_put (hg : o.guard = none) (m x v : Operand) (hop : o.op = Op.mapUpdate mt m x v) (hm : a.eval m = .map (some M)) (hM : MapAt w M n f) (hn : n < maxLen) (k : List UInt8) (hk : k.length ≤ maxLen) (hx : a.eval x = .string (strB k)) (u : Value) (hv : a.eval v = u)
    (hK : ∀ w', MapAt w' M (n + 1) (upd f k (some u)) → Keeps (fun b => b ≠ M) w w' → wpList Tryz.prog ops Q rest (a.put o.dst undef) w') : wpList Tryz.prog ops Q (o :: rest) a w := by
  obtain ⟨D, hown, hf⟩ := hM
  refine wpList_mapUpdate_own w hg m x v mt hop 9 et lawS ht rawR M n D hm hown hn _ u (.string k) hx hv (keyS k hk) (.held u) [] rfl fun w' h' hg' => ?_
  refine hK w' ⟨_, h', fun y => ?_⟩ ((Keeps.of_grown hg').mono fun b _ hb e => hb (Option.some.inj e))
  unfold upd
  by_cases hy : y = k
  · subst hy
    rw [if_pos rfl]
    exact ⟨Maps.has_put_same hown.isMap (show WideAt.IsKeyLit (Lit.string y) from trivial) _, fun z => Maps.atKey_put_same hown.isMap (show WideAt.IsKeyLit (Lit.string y) from trivial) _ z⟩
  · rw [if_neg hy, Maps.has_put_other (str_key hy)]
    exact ⟨(hf y).1, fun z => by rw [Maps.atKey_put_other (str_key hy)]; exact (hf y).2 z⟩
theorem wpList_map_del (hg : o.guard = none) (m x : Operand) (hop : o.op = Op.call { callee := Callee.builtin Builtin.delete, args := #[m, x], argTypes := #[mt, 9] }) (hm : a.eval m = .map (some M)) (hM : MapAt w M n f) (k : List UInt8) (hk : k.length ≤ maxLen) (hx : a.eval x = .string (strB k))
    (hK : ∀ w', MapAt w' M n (upd f k none) → Keeps (fun b => b ≠ M) w w' → wpList Tryz.prog ops Q rest (a.put o.dst (.tuple #[])) w') : wpList Tryz.prog ops Q (o :: rest) a w := by
  obtain ⟨D, hown, hf⟩ := hM
  refine wpList_delete_own w hg m x mt 9 hop et lawS ht rawR M n D hm hown _ (.string k) hx (keyS k hk) fun w' h' hg' => ?_
  refine hK w' ⟨_, h', fun y => ?_⟩ ((Keeps.of_grown hg'.grown).mono fun b _ hb e => hb (Option.some.inj e))
  unfold upd
  by_cases hy : y = k
  · subst hy
    rw [if_pos rfl]
    exact ⟨Maps.has_del_same, fun z => Maps.atKey_del_same z⟩
  · rw [if_neg hy, Maps.has_del_other (str_key hy)]
    exact ⟨(hf y).1, fun z => by rw [Maps.atKey_del_other (str_key hy)]; exact (hf y).2 z⟩
end
/-- its keys. -/
theorem MapAt.keys {w : World} {M n : Nat} {f : List UInt8 → Option Value} (h : MapAt w M n f) {L : List (List UInt8)} (hn : L.Nodup) (hL : ∀ x, x ∈ L ↔ (f x).isSome = true) :
    ∃ D : DataW Value, w.ownsMap Tryz.prog 9 rawR M n D ∧ L.Perm (strKeys D) ∧ Maps.size D = L.length := by
  obtain ⟨D, hown, hf⟩ := h
  obtain ⟨es, rfl, hap, hlit⟩ := hown.entries lawS
  obtain ⟨es', he, hk⟩ := hown.keysOf
  injection he with he
  subst he
  have hp : L.Perm (strKeys (.map es : DataW Value)) := perm_strKeys hap (fun p hp => by
    obtain ⟨key, hkey⟩ := hk p hp
    obtain ⟨x, -, hx, -⟩ := Maps.keyOf_str Tryz.underlying9 hkey
    exact ⟨x, hx⟩) hn (fun x => by rw [hL, (hf x).1])
  refine ⟨_, hown, hp, ?_⟩
  rw [hp.length_eq]
  show es.length = (es.map _).length
  rw [List.length_map]
end Go.Proofs.YtgajofkeidjbgaaGreatDoor
namespace Go.Proofs.YtgajofkeidjbgaaGreatDoor
set_option linter.unusedSimpArgs false
set_option linter.unusedVariables false
open Go Go.RowKit Go.Maps

/-- how keys of a sort stand in a map. -/
structure MapKey (KT : TypeId) (K : Type) where
  kv : K → Value
  kl : K → Lit
  ok : K → Prop
  keyed : Keyed Tryz.prog KT
  key : ∀ k, ok k → keyOf Tryz.prog KT (kv k) = some (kl k)
  inj : ∀ k k', kl k = kl k' → k = k'
  lit : ∀ k, WideAt.IsKeyLit (kl k)
section
variable {KT : TypeId} {K : Type} (I : MapKey KT K)
/-- block M is a map that holds f. -/
def MapIn (w : World) (M n : Nat) (f : K → Option Value) : Prop :=
  ∃ D : DataW Value, w.ownsMap Tryz.prog KT rawR M n D ∧ ∀ k, Maps.has D (I.kl k) = (f k).isSome ∧ ∀ z, D.atKey (I.kl k) z = match f k with
    | some v => .held v
    | none => z
def updK [DecidableEq K] (f : K → Option Value) (k : K) (o : Option Value) : K → Option Value := fun x => if x = k then o else f x
variable {I}
theorem MapIn.lt {w : World} {M n : Nat} {f : K → Option Value} (h : MapIn I w M n f) : M < w.heap.size := let ⟨_, h, _⟩ := h; h.lt
theorem MapIn.kept {S : Nat → Prop} {w w' : World} {M n : Nat} {f : K → Option Value} (h : MapIn I w M n f) (k : Keeps S w w') (hs : S M) : MapIn I w' M n f := by
  obtain ⟨D, ⟨es, clock, hb, F, hz, hD⟩, hf⟩ := h
  exact ⟨D, ⟨es, clock, k.obj hs hb, F, hz, hD⟩, hf⟩
theorem MapIn.later {w w' : World} {M n : Nat} {f : K → Option Value} (h : MapIn I w M n f) (k : Later w w') : MapIn I w' M n f := h.kept (k.keeps fun _ => True) trivial
theorem MapIn.mono {w : World} {M n m : Nat} {f : K → Option Value} (h : MapIn I w M n f) (hn : n ≤ m) : MapIn I w M m f := let ⟨D, h, hf⟩ := h; ⟨D, h.mono hn, hf⟩
theorem key_ne {k x : K} (h : x ≠ k) : I.kl x ≠ I.kl k := fun e => h (I.inj _ _ e)
theorem MapIn.made (w : World) : MapIn I (w.alloc (.map #[] 0)) w.heap.size 0 (fun _ => none) := ⟨.map [], World.ownsMap_made _ _ _ _, fun k => ⟨rfl, fun z => rfl⟩⟩
variable {mt et : TypeId} {zv : Value} (ht : Tryz.prog.underlying mt = some (.map KT et)) (hz : ∀ w, (zeroValue et).run Tryz.prog w = .ok zv w)
include ht
variable {w : World} {M n : Nat} {f : K → Option Value} {ops : Array Oper} {rest : List Oper} {o : Oper} {a : Act} {Q : Exit → Act → World → Prop}
include hz in
theorem MapIn.look (hM : MapIn I w M n f) (k : K) (hk : I.ok k) : (Instr.lookup mt (.map (some M)) (I.kv k) true).run Tryz.prog w = .ok (.tuple #[(f k).getD zv, .bool (f k).isSome]) w := by
  obtain ⟨D, hown, hf⟩ := hM
  obtain ⟨v, ps, hrun, hv⟩ := hown.look_ok I.keyed ht (hz w) (zd := .held zv) (zp := []) rfl (I.key k hk)
  rw [hrun]
  have h1 := rawR_inv hv
  obtain ⟨h2, h3⟩ := hf k
  rw [h3] at h1
  rw [h2]
  cases hfk : f k with
  | none => rw [hfk] at h1; simp only [DataW.held.injEq] at h1; rw [← h1]; rfl
  | some u => rw [hfk] at h1; simp only [DataW.held.injEq] at h1; rw [← h1]; rfl
include hz in
theorem MapIn.look1 (hM : MapIn I w M n f) (k : K) (hk : I.ok k) : (Instr.lookup mt (.map (some M)) (I.kv k) false).run Tryz.prog w = .ok ((f k).getD zv) w := by
  obtain ⟨D, hown, hf⟩ := hM
  obtain ⟨v, ps, hrun, hv⟩ := hown.lookup I.keyed ht (hz w) (zd := .held zv) (zp := []) rfl (I.key k hk)
  rw [hrun]
  have h1 := rawR_inv hv
  rw [(hf k).2] at h1
  cases hfk : f k with
  | none => rw [hfk] at h1; simp only [DataW.held.injEq] at h1; rw [← h1]; rfl
  | some u => rw [hfk] at h1; simp only [DataW.held.injEq] at h1; rw [← h1]; rfl
theorem wpList_in_put [DecidableEq K] (hg : o.guard = none) (m x v : Operand) (hop : o.op = Op.mapUpdate mt m x v) (hm : a.eval m = .map (some M)) (hM : MapIn I w M n f) (hn : n < maxLen) (k : K) (hk : I.ok k) (hx : a.eval x = I.kv k) (u : Value) (hv : a.eval v = u)
    (hK : ∀ w', MapIn I w' M (n + 1) (updK f k (some u)) → Keeps (fun b => b ≠ M) w w' → wpList Tryz.prog ops Q rest (a.put o.dst undef) w') : wpList Tryz.prog ops Q (o :: rest) a w := by
  obtain ⟨D, hown, hf⟩ := hM
  refine wpList_mapUpdate_own w hg m x v mt hop KT et I.keyed ht rawR M n D hm hown hn _ u (I.kl k) hx hv (I.key k hk) (.held u) [] rfl fun w' h' hg' => ?_
  refine hK w' ⟨_, h', fun y => ?_⟩ ((Keeps.of_grown hg').mono fun b _ hb e => hb (Option.some.inj e))
  unfold updK
  by_cases hy : y = k
  · subst hy
    rw [if_pos rfl]
    exact ⟨Maps.has_put_same hown.isMap (I.lit y) _, fun z => Maps.atKey_put_same hown.isMap (I.lit y) _ z⟩
  · rw [if_neg hy, Maps.has_put_other (key_ne hy)]
    exact ⟨(hf y).1, fun z => by rw [Maps.atKey_put_other (key_ne hy)]; exact (hf y).2 z⟩
theorem wpList_in_del [DecidableEq K] (hg : o.guard = none) (m x : Operand) (hop : o.op = Op.call { callee := Callee.builtin Builtin.delete, args := #[m, x], argTypes := #[mt, KT] }) (hm : a.eval m = .map (some M)) (hM : MapIn I w M n f) (k : K) (hk : I.ok k) (hx : a.eval x = I.kv k)
    (hK : ∀ w', MapIn I w' M n (updK f k none) → Keeps (fun b => b ≠ M) w w' → wpList Tryz.prog ops Q rest (a.put o.dst (.tuple #[])) w') : wpList Tryz.prog ops Q (o :: rest) a w := by
  obtain ⟨D, hown, hf⟩ := hM
  refine wpList_delete_own w hg m x mt KT hop et I.keyed ht rawR M n D hm hown _ (I.kl k) hx (I.key k hk) fun w' h' hg' => ?_
  refine hK w' ⟨_, h', fun y => ?_⟩ ((Keeps.of_grown hg'.grown).mono fun b _ hb e => hb (Option.some.inj e))
  unfold updK
  by_cases hy : y = k
  · subst hy
    rw [if_pos rfl]
    exact ⟨Maps.has_del_same, fun z => Maps.atKey_del_same z⟩
  · rw [if_neg hy, Maps.has_del_other (key_ne hy)]
    exact ⟨(hf y).1, fun z => by rw [Maps.atKey_del_other (key_ne hy)]; exact (hf y).2 z⟩
end
end Go.Proofs.YtgajofkeidjbgaaGreatDoor
namespace Go.Proofs.YtgajofkeidjbgaaGreatDoor
set_option linter.unusedSimpArgs false
set_option linter.unusedVariables false
open Go Go.RowKit Go.Maps

/-- an entry of a map that is written out. -/
theorem wpList_ins {P : Program} {ops : Array Oper} {rest : List Oper} {o : Oper} {a : Act} {w : World} {Q : Exit → Act → World → Prop} {mt : TypeId} {m x v : Operand} (hop : o.op = Op.insert mt m x v)
    (h : wpList P ops Q ({ o with op := Op.mapUpdate mt m x v } :: rest) a w) : wpList P ops Q (o :: rest) a w := by
  obtain ⟨d, op, ty, pos, aft, gd⟩ := o
  simp only at hop
  subst hop
  exact h
theorem strict_any (F : FuncId) (w : World) : Calls Tryz.prog 107 #[.func (.func F) #[] #[]] w fun e w' => e = .returned (.func (.func 126) #[] #[.pointer (some ⟨w.heap.size, 0, none⟩)]) ∧ w' = w.alloc (.cells #[.func (.func F) #[] #[]] 84) := by
  go_enter Tryz.func107, Tryz.ntmps107
  go_wp2_with fail
  exact bodyPost_ret (results_tmp rfl _ _ _) rfl ⟨rfl, rfl⟩
/-- texts as keys. -/
def strI : MapKey 9 (List UInt8) := ⟨fun k => .string (strB k), fun k => .string k, fun k => k.length ≤ maxLen, lawS, keyS, fun k k' h => by injection h, fun k => trivial⟩
/-- a row of kinds. -/
def KRow (w : World) (b : Nat) (ar : List Int) : Prop := w.heap[b]? = some (.cells (ar.map fun k => Value.int .i64 k).toArray 33 (0, 0))
/-- the function of a name. -/
def fnF (f : List UInt8) : FuncId := if f = lenW then 108 else if f = absW then 109 else if f = cutW then 110 else if f = isnullW then 111 else if f = coalW then 112 else 113
def isStrict (f : List UInt8) : Prop := f = lenW ∨ f = absW ∨ f = cutW
instance (f : List UInt8) : Decidable (isStrict f) := by unfold isStrict; infer_instance
def EvV (w : World) (f : List UInt8) (ev : Value) : Prop :=
  if isStrict f then ∃ K, ev = .func (.func 126) #[] #[.pointer (some ⟨K, 0, none⟩)] ∧ w.heap[K]? = some (.cells #[.func (.func (fnF f)) #[] #[]] 84 (0, 0)) else ev = .func (.func (fnF f)) #[] #[]
/-- what stands at a name of a function. -/
def ShapeAt (w : World) (f : List UInt8) (ar : List Int) (out : Int) (v : Value) : Prop := ∃ b ev, v = .agg #[.slice (some ⟨b, 0, none⟩) ar.length ar.length, .int .i64 out, ev] ∧ KRow w b ar ∧ EvV w f ev
theorem ShapeAt.kept {w w' : World} {f : List UInt8} {ar : List Int} {out : Int} {v : Value} (M : Nat) (hM : ∃ es n, w.heap[M]? = some (.map es n)) (h : ShapeAt w f ar out v) (k : Keeps (fun b => b ≠ M) w w') : ShapeAt w' f ar out v := by
  obtain ⟨es, n, hm⟩ := hM
  obtain ⟨b, ev, h1, h2, h3⟩ := h
  have hb : b ≠ M := fun e => by unfold KRow at h2; rw [e, hm] at h2; cases h2
  refine ⟨b, ev, h1, k.obj hb h2, ?_⟩
  unfold EvV at h3 ⊢
  split at h3
  · rename_i hs
    rw [if_pos hs]
    obtain ⟨K, e1, e2⟩ := h3
    have hK : K ≠ M := fun e => by rw [e, hm] at e2; cases e2
    exact ⟨K, e1, k.obj hK e2⟩
  · rename_i hs
    rw [if_neg hs]
    exact h3
theorem ShapeAt.later {w w' : World} {f : List UInt8} {ar : List Int} {out : Int} {v : Value} (h : ShapeAt w f ar out v) (k : Later w w') : ShapeAt w' f ar out v := by
  obtain ⟨b, ev, h1, h2, h3⟩ := h
  refine ⟨b, ev, h1, k.obj h2, ?_⟩
  unfold EvV at h3 ⊢
  split at h3
  · rename_i hs
    rw [if_pos hs]
    obtain ⟨K, e1, e2⟩ := h3
    exact ⟨K, e1, k.obj e2⟩
  · rename_i hs
    rw [if_neg hs]
    exact h3
theorem MapIn.obj {w : World} {M n : Nat} {f : List UInt8 → Option Value} (h : MapIn strI w M n f) : ∃ es c, w.heap[M]? = some (.map es c) := by
  obtain ⟨D, ⟨es, clock, hb, -⟩, -⟩ := h
  exact ⟨es, clock, hb⟩
theorem later_put {w wp w1 : World} {M : Nat} (h : Later w wp) (hM : w.heap.size ≤ M) (k : Keeps (fun b => b ≠ M) wp w1) : Later w w1 := (((h.keeps (fun _ => True)).under (k.mono fun b _ hb => by omega))).later
theorem ShapeAt.next {w1 wp w2 : World} {M n : Nat} {F : List UInt8 → Option Value} {f : List UInt8} {ar : List Int} {out : Int} {v : Value} (h : ShapeAt w1 f ar out v) (hM : MapIn strI w1 M n F) (hl : Later w1 wp) (hk : Keeps (fun b => b ≠ M) wp w2) : ShapeAt w2 f ar out v := (h.later hl).kept M (MapIn.obj (hM.later hl)) hk
theorem shape_strict {src w1 : World} {M n : Nat} {F : List UInt8 → Option Value} (hM : MapIn strI src M n F) (f : List UInt8) (ar : List Int) (out : Int) (G : FuncId) (hs : isStrict f) (hG : fnF f = G)
    (hk : Keeps (fun b => b ≠ M) ((src.alloc (.cells (ar.map fun k => Value.int .i64 k).toArray 33)).alloc (.cells #[.func (.func G) #[] #[]] 84)) w1) :
    ShapeAt w1 f ar out (.agg #[.slice (some ⟨src.heap.size, 0, none⟩) ar.length ar.length, .int .i64 out, .func (.func 126) #[] #[.pointer (some ⟨src.heap.size + 1, 0, none⟩)]]) := by
  refine ShapeAt.kept M (MapIn.obj (hM.later ((Later.alloc _ _).alloc' _))) ⟨_, _, rfl, (Later.alloc _ _).obj (obj_new src _), ?_⟩ hk
  unfold EvV
  rw [if_pos hs, hG]
  exact ⟨_, rfl, obj_at (by simp)⟩
theorem shape_plain {src w1 : World} {M n : Nat} {F : List UInt8 → Option Value} (hM : MapIn strI src M n F) (f : List UInt8) (ar : List Int) (out : Int) (G : FuncId) (hs : ¬ isStrict f) (hG : fnF f = G)
    (hk : Keeps (fun b => b ≠ M) (src.alloc (.cells (ar.map fun k => Value.int .i64 k).toArray 33)) w1) :
    ShapeAt w1 f ar out (.agg #[.slice (some ⟨src.heap.size, 0, none⟩) ar.length ar.length, .int .i64 out, .func (.func G) #[] #[]]) := by
  refine ShapeAt.kept M (MapIn.obj (hM.later (Later.alloc _ _))) ⟨_, _, rfl, obj_new src _, ?_⟩ hk
  unfold EvV
  rw [if_neg hs, hG]
def FuncsTo (w : World) (e : Ending) (w' : World) : Prop := ∃ (M : Nat) (F : List UInt8 → Option Value), e = .returned (.map (some M)) ∧ Later w w' ∧ MapIn strI w' M 6 F ∧ ∀ f, match argsF f with
  | none => F f = none
  | some a => ∃ v, F f = some v ∧ ShapeAt w' f a.1 a.2 v
set_option maxRecDepth 100000 in
set_option maxHeartbeats 4000000 in
theorem functions_any (w : World) : Calls Tryz.prog 92 #[] w (FuncsTo w) := by
  have hmm := @run_makeMap Tryz.prog
  go_enter Tryz.func92, Tryz.ntmps92
  go_wp2_with (first | (go_at_call 107; refine (strict_any _ _).mono ?_; rintro e w' ⟨rfl, rfl⟩) | (refine wpList_ins rfl ?_; refine wpList_in_put (I := strI) Tryz.underlying177 rfl _ _ _ rfl rfl ((MapIn.made w).later ?hM0) ?hn0 lenW ?hk0 rfl _ rfl ?_))
  case hM0 => exact (Later.alloc _ _).alloc' _
  case hn0 => unfold maxLen; omega
  case hk0 => show List.length _ ≤ maxLen; unfold maxLen; decide
  intro w1 hm1 hk1
  have HS1 := hid (shape_strict (MapIn.made w) lenW [3] 1 108 (by decide) (by decide) hk1)
  have HM1 := hid hm1; have HK1 := hid hk1
  clear hm1 hk1
  go_wp2_with (first | (go_at_call 107; refine (strict_any _ _).mono ?_; rintro e w' ⟨rfl, rfl⟩) | (refine wpList_ins rfl ?_; refine wpList_in_put (I := strI) Tryz.underlying177 rfl _ _ _ rfl rfl (HM1.out.later ?hM1) ?hn1 absW ?hk1 rfl _ rfl ?_))
  case hM1 => exact (Later.alloc _ _).alloc' _
  case hn1 => unfold maxLen; omega
  case hk1 => show List.length _ ≤ maxLen; unfold maxLen; decide
  intro w2 hm2 hk2
  have HS2 := hid (shape_strict HM1.out absW [1] 1 109 (by decide) (by decide) hk2)
  have HM2 := hid hm2; have HK2 := hid hk2
  clear hm2 hk2
  go_wp2_with (first | (go_at_call 107; refine (strict_any _ _).mono ?_; rintro e w' ⟨rfl, rfl⟩) | (refine wpList_ins rfl ?_; refine wpList_in_put (I := strI) Tryz.underlying177 rfl _ _ _ rfl rfl (HM2.out.later ?hM2) ?hn2 cutW ?hk2 rfl _ rfl ?_))
  case hM2 => exact (Later.alloc _ _).alloc' _
  case hn2 => unfold maxLen; omega
  case hk2 => show List.length _ ≤ maxLen; unfold maxLen; decide
  intro w3 hm3 hk3
  have HS3 := hid (shape_strict HM2.out cutW [3, 1] 3 110 (by decide) (by decide) hk3)
  have HM3 := hid hm3; have HK3 := hid hk3
  clear hm3 hk3
  go_wp2_with (first | (go_at_call 107; refine (strict_any _ _).mono ?_; rintro e w' ⟨rfl, rfl⟩) | (refine wpList_ins rfl ?_; refine wpList_in_put (I := strI) Tryz.underlying177 rfl _ _ _ rfl rfl (HM3.out.later ?hM3) ?hn3 isnullW ?hk3 rfl _ rfl ?_))
  case hM3 => exact Later.alloc _ _
  case hn3 => unfold maxLen; omega
  case hk3 => show List.length _ ≤ maxLen; unfold maxLen; decide
  intro w4 hm4 hk4
  have HS4 := hid (shape_plain HM3.out isnullW [0] 2 111 (by decide) (by decide) hk4)
  have HM4 := hid hm4; have HK4 := hid hk4
  clear hm4 hk4
  go_wp2_with (first | (go_at_call 107; refine (strict_any _ _).mono ?_; rintro e w' ⟨rfl, rfl⟩) | (refine wpList_ins rfl ?_; refine wpList_in_put (I := strI) Tryz.underlying177 rfl _ _ _ rfl rfl (HM4.out.later ?hM4) ?hn4 coalW ?hk4 rfl _ rfl ?_))
  case hM4 => exact Later.alloc _ _
  case hn4 => unfold maxLen; omega
  case hk4 => show List.length _ ≤ maxLen; unfold maxLen; decide
  intro w5 hm5 hk5
  have HS5 := hid (shape_plain HM4.out coalW [9, 9] 9 112 (by decide) (by decide) hk5)
  have HM5 := hid hm5; have HK5 := hid hk5
  clear hm5 hk5
  go_wp2_with (first | (go_at_call 107; refine (strict_any _ _).mono ?_; rintro e w' ⟨rfl, rfl⟩) | (refine wpList_ins rfl ?_; refine wpList_in_put (I := strI) Tryz.underlying177 rfl _ _ _ rfl rfl (HM5.out.later ?hM5) ?hn5 ifW ?hk5 rfl _ rfl ?_))
  case hM5 => exact Later.alloc _ _
  case hn5 => unfold maxLen; omega
  case hk5 => show List.length _ ≤ maxLen; unfold maxLen; decide
  intro w6 hm6 hk6
  have HS6 := hid (shape_plain HM5.out ifW [2, 9, 9] 9 113 (by decide) (by decide) hk6)
  have HM6 := hid hm6; have HK6 := hid hk6
  clear hm6 hk6
  go_wp2_with fail
  refine bodyPost_ret (results_tmp rfl _ _ _) rfl ⟨w.heap.size, _, rfl, ?_, HM6.out, ?_⟩
  · exact later_put (Later.trans _ _ _ (later_put (Later.trans _ _ _ (later_put (Later.trans _ _ _ (later_put (Later.trans _ _ _ (later_put (Later.trans _ _ _ (later_put (((Later.alloc _ _).alloc' _).alloc' _) (Nat.le_refl _) HK1.out) ((Later.alloc _ _).alloc' _)) (Nat.le_refl _) HK2.out) ((Later.alloc _ _).alloc' _)) (Nat.le_refl _) HK3.out) (Later.alloc _ _)) (Nat.le_refl _) HK4.out) (Later.alloc _ _)) (Nat.le_refl _) HK5.out) (Later.alloc _ _)) (Nat.le_refl _) HK6.out
  · intro f
    unfold argsF
    by_cases h0 : f = lenW
    · subst h0
      simp only [if_true, reduceIte]
      exact ⟨_, by simp [updK], (((((HS1.out).next HM1.out ((Later.alloc _ _).alloc' _) HK2.out).next HM2.out ((Later.alloc _ _).alloc' _) HK3.out).next HM3.out (Later.alloc _ _) HK4.out).next HM4.out (Later.alloc _ _) HK5.out).next HM5.out (Later.alloc _ _) HK6.out⟩
    rw [if_neg h0]
    by_cases h1 : f = absW
    · subst h1
      simp only [if_true, reduceIte]
      exact ⟨_, by simp [updK], ((((HS2.out).next HM2.out ((Later.alloc _ _).alloc' _) HK3.out).next HM3.out (Later.alloc _ _) HK4.out).next HM4.out (Later.alloc _ _) HK5.out).next HM5.out (Later.alloc _ _) HK6.out⟩
    rw [if_neg h1]
    by_cases h2 : f = cutW
    · subst h2
      simp only [if_true, reduceIte]
      exact ⟨_, by simp [updK], (((HS3.out).next HM3.out (Later.alloc _ _) HK4.out).next HM4.out (Later.alloc _ _) HK5.out).next HM5.out (Later.alloc _ _) HK6.out⟩
    rw [if_neg h2]
    by_cases h3 : f = isnullW
    · subst h3
      simp only [if_true, reduceIte]
      exact ⟨_, by simp [updK], ((HS4.out).next HM4.out (Later.alloc _ _) HK5.out).next HM5.out (Later.alloc _ _) HK6.out⟩
    rw [if_neg h3]
    by_cases h4 : f = coalW
    · subst h4
      simp only [if_true, reduceIte]
      exact ⟨_, by simp [updK], (HS5.out).next HM5.out (Later.alloc _ _) HK6.out⟩
    rw [if_neg h4]
    by_cases h5 : f = ifW
    · subst h5
      simp only [if_true, reduceIte]
      exact ⟨_, by simp [updK], HS6.out⟩
    rw [if_neg h5]
    simp [updK, h0, h1, h2, h3, h4, h5]
end Go.Proofs.YtgajofkeidjbgaaGreatDoor
