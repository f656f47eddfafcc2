/-
  PROVED HERE: a map of texts to slices, by what it holds at each text: looking up, storing, deleting in a walk. No program of its own.
-/
import Derived.Test.YtcmpjdnbjhkhdaaDoorRows
import Derived.Test.YtcmpjdnbjhkhdaaDoorData
import Derived.Test.YtcmpjdnbjhkhdaaDoorBytes
import Derived.Maps.OwnSet
import Derived.Maps.Range
import Derived.Sort.KeysCollected
import Derived.StringKeys
namespace Go.Proofs.YtcmpjdnbjhkhdaaDoor
set_option linter.unusedSimpArgs false
set_option linter.unusedVariables false
open Go Go.RowKit Go.Maps

/-- an element reads as itself. -/
def rawR (v : Value) : Option (DataW Value × List MemPlace) := some (.held v, [])
theorem rawR_inv {v : Value} {d : DataW Value} {ps : List MemPlace} (h : rawR v = some (d, ps)) : d = .held v := by
  simp only [rawR, Option.some.injEq, Prod.mk.injEq] at h
  exact h.1.symm
def nilS : Value := .slice none 0 0
/-- block M is a map that holds f. -/
def MapAt (w : World) (M n : Nat) (f : List UInt8 → Option Value) : Prop :=
  ∃ D : DataW Value, w.ownsMap Tryd.prog 9 rawR M n D ∧ ∀ k, Maps.has D (.string k) = (f k).isSome ∧ ∀ z, D.atKey (.string k) z = match f k with
    | some v => .held v
    | none => z
def upd (f : List UInt8 → Option Value) (k : List UInt8) (o : Option Value) : List UInt8 → Option Value := fun x => if x = k then o else f x
theorem lawS : Keyed Tryd.prog 9 := string_keyed Tryd.underlying9
theorem keyS (k : List UInt8) (h : k.length ≤ maxLen) : keyOf Tryd.prog 9 (.string (strB k)) = some (.string k) := by
  have := WideMaps.keyOf_string_mk Tryd.underlying9 (s := strB k) (by rw [strB_size]; exact h)
  exact this
theorem MapAt.lt {w : World} {M n : Nat} {f : List UInt8 → Option Value} (h : MapAt w M n f) : M < w.heap.size := let ⟨_, h, _⟩ := h; h.lt
theorem MapAt.kept {S : Nat → Prop} {w w' : World} {M n : Nat} {f : List UInt8 → Option Value} (h : MapAt w M n f) (k : Keeps S w w') (hs : S M) : MapAt w' M n f := by
  obtain ⟨D, ⟨es, clock, hb, F, hz, hD⟩, hf⟩ := h
  exact ⟨D, ⟨es, clock, k.obj hs hb, F, hz, hD⟩, hf⟩
theorem MapAt.later {w w' : World} {M n : Nat} {f : List UInt8 → Option Value} (h : MapAt w M n f) (k : Later w w') : MapAt w' M n f := h.kept (k.keeps fun _ => True) trivial
theorem MapAt.mono {w : World} {M n m : Nat} {f : List UInt8 → Option Value} (h : MapAt w M n f) (hn : n ≤ m) : MapAt w M m f := let ⟨D, h, hf⟩ := h; ⟨D, h.mono hn, hf⟩
theorem str_key {k x : List UInt8} (h : x ≠ k) : (Lit.string x) ≠ Lit.string k := fun e => h (by injection e)
theorem MapAt.made (w : World) : MapAt (w.alloc (.map #[] 0)) w.heap.size 0 (fun _ => none) := ⟨.map [], World.ownsMap_made _ _ _ _, fun k => ⟨rfl, fun z => rfl⟩⟩

section
variable {mt et : TypeId} (ht : Tryd.prog.underlying mt = some (.map 9 et)) (hz : ∀ w, (zeroValue et).run Tryd.prog w = .ok (.slice none 0 0) w)
include ht
variable {w : World} {M n : Nat} {f : List UInt8 → Option Value} {ops : Array Oper} {rest : List Oper} {o : Oper} {a : Act} {Q : Exit → Act → World → Prop}
include hz in
theorem MapAt.look (hM : MapAt w M n f) (k : List UInt8) (hk : k.length ≤ maxLen) : (Instr.lookup mt (.map (some M)) (.string (strB k)) true).run Tryd.prog w = .ok (.tuple #[(f k).getD nilS, .bool (f k).isSome]) w := by
  obtain ⟨D, hown, hf⟩ := hM
  obtain ⟨v, ps, hrun, hv⟩ := hown.look_ok lawS ht (hz w) (zd := .held nilS) (zp := []) rfl (keyS k hk)
  rw [hrun]
  have h1 := rawR_inv hv
  obtain ⟨h2, h3⟩ := hf k
  rw [h3] at h1
  rw [h2]
  cases hfk : f k with
  | none =>
    rw [hfk] at h1
    simp only [DataW.held.injEq] at h1
    rw [← h1]
    rfl
  | some u =>
    rw [hfk] at h1
    simp only [DataW.held.injEq] at h1
    rw [← h1]
    rfl
include hz in
theorem wpList_map_ok (hg : o.guard = none) (m x : Operand) (hop : o.op = Op.lookup mt m x true) (hm : a.eval m = .map (some M)) (hM : MapAt w M n f) (k : List UInt8) (hk : k.length ≤ maxLen) (hx : a.eval x = .string (strB k))
    (hK : wpList Tryd.prog ops Q rest (a.put o.dst (.tuple #[(f k).getD nilS, .bool (f k).isSome])) w) : wpList Tryd.prog ops Q (o :: rest) a w := by
  obtain ⟨D, hown, hf⟩ := hM
  refine wpList_lookup_own_ok w hg m x mt hop 9 et lawS ht rawR (hz w) (.held nilS) [] rfl M n D hm hown _ (.string k) hx (keyS k hk) fun v ps hv => ?_
  have h1 := rawR_inv hv
  obtain ⟨h2, h3⟩ := hf k
  rw [h3] at h1
  rw [h2]
  cases hfk : f k with
  | none =>
    rw [hfk] at h1 hK
    simp only [DataW.held.injEq] at h1
    rw [← h1]
    exact hK
  | some u =>
    rw [hfk] at h1 hK
    simp only [DataW.held.injEq] at h1
    rw [← h1]
    exact hK
include hz in
theorem wpList_map_get (hg : o.guard = none) (m x : Operand) (hop : o.op = Op.lookup mt m x false) (hm : a.eval m = .map (some M)) (hM : MapAt w M n f) (k : List UInt8) (hk : k.length ≤ maxLen) (hx : a.eval x = .string (strB k))
    (hK : wpList Tryd.prog ops Q rest (a.put o.dst ((f k).getD nilS)) w) : wpList Tryd.prog ops Q (o :: rest) a w := by
  obtain ⟨D, hown, hf⟩ := hM
  obtain ⟨v, ps, hrun, hv⟩ := hown.lookup lawS ht (hz w) (zd := .held nilS) (zp := []) rfl (keyS k hk)
  refine wpList_plain hg fun K' hK' => ?_
  unfold Oper.wp
  simp only [execOp, hop, hm, hx]
  simp [hrun, Result.andThen]
  refine hK' _ _ ?_
  have h1 := rawR_inv hv
  rw [(hf k).2] at h1
  cases hfk : f k with
  | none =>
    rw [hfk] at h1 hK
    simp only [DataW.held.injEq] at h1
    rw [← h1]
    exact hK
  | some u =>
    rw [hfk] at h1 hK
    simp only [DataW.held.injEq] at h1
    rw [← h1]
    exact hK
theorem wpList_map_put (hg : o.guard = none) (m x v : Operand) (hop : o.op = Op.mapUpdate mt m x v) (hm : a.eval m = .map (some M)) (hM : MapAt w M n f) (hn : n < maxLen) (k : List UInt8) (hk : k.length ≤ maxLen) (hx : a.eval x = .string (strB k)) (u : Value) (hv : a.eval v = u)
    (hK : ∀ w', MapAt w' M (n + 1) (upd f k (some u)) → Keeps (fun b => b ≠ M) w w' → wpList Tryd.prog ops Q rest (a.put o.dst undef) w') : wpList Tryd.prog ops Q (o :: rest) a w := by
  obtain ⟨D, hown, hf⟩ := hM
  refine wpList_mapUpdate_own w hg m x v mt hop 9 et lawS ht rawR M n D hm hown hn _ u (.string k) hx hv (keyS k hk) (.held u) [] rfl fun w' h' hg' => ?_
  refine hK w' ⟨_, h', fun y => ?_⟩ ((Keeps.of_grown hg').mono fun b _ hb e => hb (Option.some.inj e))
  unfold upd
  by_cases hy : y = k
  · subst hy
    rw [if_pos rfl]
    exact ⟨Maps.has_put_same hown.isMap (show WideAt.IsKeyLit (Lit.string y) from trivial) _, fun z => Maps.atKey_put_same hown.isMap (show WideAt.IsKeyLit (Lit.string y) from trivial) _ z⟩
  · rw [if_neg hy, Maps.has_put_other (str_key hy)]
    exact ⟨(hf y).1, fun z => by rw [Maps.atKey_put_other (str_key hy)]; exact (hf y).2 z⟩
theorem wpList_map_del (hg : o.guard = none) (m x : Operand) (hop : o.op = Op.call { callee := Callee.builtin Builtin.delete, args := #[m, x], argTypes := #[mt, 9] }) (hm : a.eval m = .map (some M)) (hM : MapAt w M n f) (k : List UInt8) (hk : k.length ≤ maxLen) (hx : a.eval x = .string (strB k))
    (hK : ∀ w', MapAt w' M n (upd f k none) → Keeps (fun b => b ≠ M) w w' → wpList Tryd.prog ops Q rest (a.put o.dst (.tuple #[])) w') : wpList Tryd.prog ops Q (o :: rest) a w := by
  obtain ⟨D, hown, hf⟩ := hM
  refine wpList_delete_own w hg m x mt 9 hop et lawS ht rawR M n D hm hown _ (.string k) hx (keyS k hk) fun w' h' hg' => ?_
  refine hK w' ⟨_, h', fun y => ?_⟩ ((Keeps.of_grown hg'.grown).mono fun b _ hb e => hb (Option.some.inj e))
  unfold upd
  by_cases hy : y = k
  · subst hy
    rw [if_pos rfl]
    exact ⟨Maps.has_del_same, fun z => Maps.atKey_del_same z⟩
  · rw [if_neg hy, Maps.has_del_other (str_key hy)]
    exact ⟨(hf y).1, fun z => by rw [Maps.atKey_del_other (str_key hy)]; exact (hf y).2 z⟩
end
/-- its keys. -/
theorem MapAt.keys {w : World} {M n : Nat} {f : List UInt8 → Option Value} (h : MapAt w M n f) {L : List (List UInt8)} (hn : L.Nodup) (hL : ∀ x, x ∈ L ↔ (f x).isSome = true) :
    ∃ D : DataW Value, w.ownsMap Tryd.prog 9 rawR M n D ∧ L.Perm (strKeys D) ∧ Maps.size D = L.length := by
  obtain ⟨D, hown, hf⟩ := h
  obtain ⟨es, rfl, hap, hlit⟩ := hown.entries lawS
  obtain ⟨es', he, hk⟩ := hown.keysOf
  injection he with he
  subst he
  have hp : L.Perm (strKeys (.map es : DataW Value)) := perm_strKeys hap (fun p hp => by
    obtain ⟨key, hkey⟩ := hk p hp
    obtain ⟨x, -, hx, -⟩ := Maps.keyOf_str Tryd.underlying9 hkey
    exact ⟨x, hx⟩) hn (fun x => by rw [hL, (hf x).1])
  refine ⟨_, hown, hp, ?_⟩
  rw [hp.length_eq]
  show es.length = (es.map _).length
  rw [List.length_map]
end Go.Proofs.YtcmpjdnbjhkhdaaDoor
