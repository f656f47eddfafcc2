/-
  PROVED HERE: a map of keys of any sort to values, by what it holds at each key: looking up, storing, deleting in a walk; its keys. No program of its own.
  PROVED HERE: the contract of Store.Load.
-/
import Derived.Test.YtgcnchmnciihnaaGreatDoorGShow
import Derived.DeepKeys4
import Derived.Test.YtgcnchmnciihnaaGreatDoorGStRead
namespace Go.Proofs.YtgcnchmnciihnaaGreatDoor
set_option linter.unusedSimpArgs false
set_option linter.unusedVariables false
open Go Go.RowKit Go.Maps

/-- how keys of a sort stand in a map. -/
structure MapKey (KT : TypeId) (K : Type) where
  kv : K → Value
  kl : K → Lit
  ok : K → Prop
  keyed : Keyed Tryz.prog KT
  key : ∀ k, ok k → keyOf Tryz.prog KT (kv k) = some (kl k)
  inj : ∀ k k', kl k = kl k' → k = k'
  lit : ∀ k, WideAt.IsKeyLit (kl k)
section
variable {KT : TypeId} {K : Type} (I : MapKey KT K)
/-- block M is a map that holds f. -/
def MapIn (w : World) (M n : Nat) (f : K → Option Value) : Prop :=
  ∃ D : DataW Value, w.ownsMap Tryz.prog KT rawR M n D ∧ ∀ k, Maps.has D (I.kl k) = (f k).isSome ∧ ∀ z, D.atKey (I.kl k) z = match f k with
    | some v => .held v
    | none => z
def updK [DecidableEq K] (f : K → Option Value) (k : K) (o : Option Value) : K → Option Value := fun x => if x = k then o else f x
variable {I}
theorem MapIn.lt {w : World} {M n : Nat} {f : K → Option Value} (h : MapIn I w M n f) : M < w.heap.size := let ⟨_, h, _⟩ := h; h.lt
theorem MapIn.kept {S : Nat → Prop} {w w' : World} {M n : Nat} {f : K → Option Value} (h : MapIn I w M n f) (k : Keeps S w w') (hs : S M) : MapIn I w' M n f := by
  obtain ⟨D, ⟨es, clock, hb, F, hz, hD⟩, hf⟩ := h
  exact ⟨D, ⟨es, clock, k.obj hs hb, F, hz, hD⟩, hf⟩
theorem MapIn.later {w w' : World} {M n : Nat} {f : K → Option Value} (h : MapIn I w M n f) (k : Later w w') : MapIn I w' M n f := h.kept (k.keeps fun _ => True) trivial
theorem MapIn.mono {w : World} {M n m : Nat} {f : K → Option Value} (h : MapIn I w M n f) (hn : n ≤ m) : MapIn I w M m f := let ⟨D, h, hf⟩ := h; ⟨D, h.mono hn, hf⟩
theorem key_ne {k x : K} (h : x ≠ k) : I.kl x ≠ I.kl k := fun e => h (I.inj _ _ e)
theorem MapIn.made (w : World) : MapIn I (w.alloc (.map #[] 0)) w.heap.size 0 (fun _ => none) := ⟨.map [], World.ownsMap_made _ _ _ _, fun k => ⟨rfl, fun z => rfl⟩⟩
variable {mt et : TypeId} {zv : Value} (ht : Tryz.prog.underlying mt = some (.map KT et)) (hz : ∀ w, (zeroValue et).run Tryz.prog w = .ok zv w)
include ht
variable {w : World} {M n : Nat} {f : K → Option Value} {ops : Array Oper} {rest : List Oper} {o : Oper} {a : Act} {Q : Exit → Act → World → Prop}
include hz in
theorem MapIn.look (hM : MapIn I w M n f) (k : K) (hk : I.ok k) : (Instr.lookup mt (.map (some M)) (I.kv k) true).run Tryz.prog w = .ok (.tuple #[(f k).getD zv, .bool (f k).isSome]) w := by
  obtain ⟨D, hown, hf⟩ := hM
  obtain ⟨v, ps, hrun, hv⟩ := hown.look_ok I.keyed ht (hz w) (zd := .held zv) (zp := []) rfl (I.key k hk)
  rw [hrun]
  have h1 := rawR_inv hv
  obtain ⟨h2, h3⟩ := hf k
  rw [h3] at h1
  rw [h2]
  cases hfk : f k with
  | none => rw [hfk] at h1; simp only [DataW.held.injEq] at h1; rw [← h1]; rfl
  | some u => rw [hfk] at h1; simp only [DataW.held.injEq] at h1; rw [← h1]; rfl
include hz in
theorem MapIn.look1 (hM : MapIn I w M n f) (k : K) (hk : I.ok k) : (Instr.lookup mt (.map (some M)) (I.kv k) false).run Tryz.prog w = .ok ((f k).getD zv) w := by
  obtain ⟨D, hown, hf⟩ := hM
  obtain ⟨v, ps, hrun, hv⟩ := hown.lookup I.keyed ht (hz w) (zd := .held zv) (zp := []) rfl (I.key k hk)
  rw [hrun]
  have h1 := rawR_inv hv
  rw [(hf k).2] at h1
  cases hfk : f k with
  | none => rw [hfk] at h1; simp only [DataW.held.injEq] at h1; rw [← h1]; rfl
  | some u => rw [hfk] at h1; simp only [DataW.held.injEq] at h1; rw [← h1]; rfl
theorem wpList_in_put [DecidableEq K] (hg : o.guard = none) (m x v : Operand) (hop : o.op = Op.mapUpdate mt m x v) (hm : a.eval m = .map (some M)) (hM : MapIn I w M n f) (hn : n < maxLen) (k : K) (hk : I.ok k) (hx : a.eval x = I.kv k) (u : Value) (hv : a.eval v = u)
    (hK : ∀ w', MapIn I w' M (n + 1) (updK f k (some u)) → Keeps (fun b => b ≠ M) w w' → wpList Tryz.prog ops Q rest (a.put o.dst undef) w') : wpList Tryz.prog ops Q (o :: rest) a w := by
  obtain ⟨D, hown, hf⟩ := hM
  refine wpList_mapUpdate_own w hg m x v mt hop KT et I.keyed ht rawR M n D hm hown hn _ u (I.kl k) hx hv (I.key k hk) (.held u) [] rfl fun w' h' hg' => ?_
  refine hK w' ⟨_, h', fun y => ?_⟩ ((Keeps.of_grown hg').mono fun b _ hb e => hb (Option.some.inj e))
  unfold updK
  by_cases hy : y = k
  · subst hy
    rw [if_pos rfl]
    exact ⟨Maps.has_put_same hown.isMap (I.lit y) _, fun z => Maps.atKey_put_same hown.isMap (I.lit y) _ z⟩
  · rw [if_neg hy, Maps.has_put_other (key_ne hy)]
    exact ⟨(hf y).1, fun z => by rw [Maps.atKey_put_other (key_ne hy)]; exact (hf y).2 z⟩
theorem wpList_in_del [DecidableEq K] (hg : o.guard = none) (m x : Operand) (hop : o.op = Op.call { callee := Callee.builtin Builtin.delete, args := #[m, x], argTypes := #[mt, KT] }) (hm : a.eval m = .map (some M)) (hM : MapIn I w M n f) (k : K) (hk : I.ok k) (hx : a.eval x = I.kv k)
    (hK : ∀ w', MapIn I w' M n (updK f k none) → Keeps (fun b => b ≠ M) w w' → wpList Tryz.prog ops Q rest (a.put o.dst (.tuple #[])) w') : wpList Tryz.prog ops Q (o :: rest) a w := by
  obtain ⟨D, hown, hf⟩ := hM
  refine wpList_delete_own w hg m x mt KT hop et I.keyed ht rawR M n D hm hown _ (I.kl k) hx (I.key k hk) fun w' h' hg' => ?_
  refine hK w' ⟨_, h', fun y => ?_⟩ ((Keeps.of_grown hg'.grown).mono fun b _ hb e => hb (Option.some.inj e))
  unfold updK
  by_cases hy : y = k
  · subst hy
    rw [if_pos rfl]
    exact ⟨Maps.has_del_same, fun z => Maps.atKey_del_same z⟩
  · rw [if_neg hy, Maps.has_del_other (key_ne hy)]
    exact ⟨(hf y).1, fun z => by rw [Maps.atKey_del_other (key_ne hy)]; exact (hf y).2 z⟩
end
end Go.Proofs.YtgcnchmnciihnaaGreatDoor
namespace Go.Proofs.YtgcnchmnciihnaaGreatDoor
set_option linter.unusedSimpArgs false
set_option linter.unusedVariables false
open Go Go.RowKit Go.Maps

def intI : MapKey 3 Int := ⟨fun k => .int .i64 k, fun k => .int .i64 k, fun k => (Lit.int .i64 k).wf = true, int_keyed Tryz.underlying3, fun _ h => keyOf_int_mk Tryz.underlying3 h, fun k k' h => by injection h, fun _ => trivial⟩
/-- at an offset of a block stands a piece. -/
def PcAt (U : Nat → Prop) (w : World) (b o : Nat) (x : Int × List UInt8) : Prop := w.cell? ⟨b, o, none⟩ = some (.int .i64 x.1) ∧ ∃ v, w.cell? ⟨b, o + 1, none⟩ = some v ∧ BytesIn U w v x.2
abbrev PcsIn (U : Nat → Prop) (w : World) (v : Value) (l : List (Int × List UInt8)) : Prop := SliceOf U (PcAt U) 2 w v l
/-- what Load does: the code (0: well), the cells. -/
def loadN (lo hi : Int) : List (Int × List UInt8) → List Int → List CellP → Int × List CellP
  | [], _, L => (0, L)
  | x :: ps, seen, L =>
    if x.1 < 0 ∨ 32 ≤ x.1 then (4, [])
    else if x.1 ∈ seen then (6, [])
    else if x.1 < lo ∨ hi ≤ x.1 then loadN lo hi ps (x.1 :: seen) L
    else if (readE lo hi x.1 L x.2).1 = 0 then loadN lo hi ps (x.1 :: seen) (readE lo hi x.1 L x.2).2
    else ((readE lo hi x.1 L x.2).1, [])
section
variable {lo hi : Int} {x : Int × List UInt8} {ps : List (Int × List UInt8)} {seen : List Int} {L : List CellP}
theorem loadN_range (h : x.1 < 0 ∨ 32 ≤ x.1) : loadN lo hi (x :: ps) seen L = (4, []) := by unfold loadN; rw [if_pos h]
theorem loadN_twice (h : ¬ (x.1 < 0 ∨ 32 ≤ x.1)) (h2 : x.1 ∈ seen) : loadN lo hi (x :: ps) seen L = (6, []) := by unfold loadN; rw [if_neg h, if_pos h2]
theorem loadN_pass (h : ¬ (x.1 < 0 ∨ 32 ≤ x.1)) (h2 : x.1 ∉ seen) (h3 : x.1 < lo ∨ hi ≤ x.1) : loadN lo hi (x :: ps) seen L = loadN lo hi ps (x.1 :: seen) L := by rw [loadN, if_neg h, if_neg h2, if_pos h3]
theorem loadN_bad (h : ¬ (x.1 < 0 ∨ 32 ≤ x.1)) (h2 : x.1 ∉ seen) (h3 : ¬ (x.1 < lo ∨ hi ≤ x.1)) (h4 : ¬ (readE lo hi x.1 L x.2).1 = 0) : loadN lo hi (x :: ps) seen L = ((readE lo hi x.1 L x.2).1, []) := by rw [loadN, if_neg h, if_neg h2, if_neg h3, if_neg h4]
theorem loadN_read (h : ¬ (x.1 < 0 ∨ 32 ≤ x.1)) (h2 : x.1 ∉ seen) (h3 : ¬ (x.1 < lo ∨ hi ≤ x.1)) (h4 : (readE lo hi x.1 L x.2).1 = 0) : loadN lo hi (x :: ps) seen L = loadN lo hi ps (x.1 :: seen) (readE lo hi x.1 L x.2).2 := by rw [loadN, if_neg h, if_neg h2, if_neg h3, if_pos h4]
end
def LoadOkTo (w : World) (S : Nat) (lo hi : Int) (L : List CellP) (e : Ending) (w' : World) : Prop :=
  e = .returned .nilIface ∧ Keeps (fun b => b ≠ S) w w' ∧ ∃ M', w.heap.size ≤ M' ∧ M' < w'.heap.size ∧ ∀ V' : Nat → Prop, (∀ b, w.heap.size ≤ b → b ≠ M' → V' b) → ¬ V' S → ¬ V' M' → StAt V' w' S M' lo hi L
def LoadErrTo (w : World) (k : Int) (e : Ending) (w' : World) : Prop := e = .returned (.iface 39 (.int .i64 k)) ∧ Later w w'
def LoadTo (w : World) (S : Nat) (lo hi : Int) (r : Int × List CellP) (e : Ending) (w' : World) : Prop :=
  if r.1 = 0 then LoadOkTo w S lo hi r.2 e w' else LoadErrTo w r.1 e w'
section
variable {w w' : World} {S : Nat} {lo hi k : Int} {r : Int × List CellP} {L : List CellP} {e : Ending}
theorem loadTo_err (h : r.1 = k) (hk : k ≠ 0) (hp : LoadErrTo w k e w') : LoadTo w S lo hi r e w' := by unfold LoadTo; rw [h, if_neg hk]; exact hp
theorem loadTo_ok (h : r = (0, L)) (hp : LoadOkTo w S lo hi L e w') : LoadTo w S lo hi r e w' := by unfold LoadTo; rw [h, if_pos rfl]; exact hp
end
/-- where the new store's cells stand. -/
def LX (w : World) (N Mn Q b : Nat) : Prop := w.heap.size ≤ b ∧ b ≠ N ∧ b ≠ Mn ∧ b ≠ Q
def seenF (l : List Int) (k : Int) : Option Value := if k ∈ l then some (.agg #[]) else none
structure LdSt (w wx : World) (N Mn Q : Nat) (lo hi : Int) (L : List CellP) (seen : List Int) (i : Nat) : Prop where
  st : StAt (LX w N Mn Q) wx N Mn lo hi L
  map : MapIn intI wx Q i (seenF seen)
  keep : Later w wx
theorem seen_upd (l : List Int) (k : Int) : updK (seenF l) k (some (.agg #[])) = seenF (k :: l) := by
  funext x
  unfold updK seenF
  by_cases h : x = k
  · subst h; simp
  · simp [h]
theorem MapIn.int_obj {w : World} {M n : Nat} {f : Int → Option Value} (h : MapIn intI w M n f) : ∃ es c, w.heap[M]? = some (.map es c) := by
  obtain ⟨D, ⟨es, clock, hb, -⟩, -⟩ := h
  exact ⟨es, clock, hb⟩
theorem zero_unit (w : World) : (zeroValue 82).run Tryz.prog w = .ok (.agg #[]) w := by go_simp
theorem drop_at {α : Type} {l : List α} {i : Nat} (h : i < l.length) : l.drop i = l[i] :: l.drop (i + 1) := List.drop_eq_getElem_cons h

set_option maxRecDepth 100000 in
set_option maxHeartbeats 4000000 in
theorem load_any {V : Nat → Prop} {S M : Nat} {lo hi : Int} {L : List CellP} (ps : List (Int × List UInt8)) (v : Value) (w : World) (h : StAt V w S M lo hi L) (hv : PcsIn All w v ps) (hl : ps.length ≤ 64)
    (hb : ∀ x ∈ ps, (Lit.int .i64 x.1).wf = true ∧ x.2.length ≤ 1099511627776) (ht : PowTab w) :
    Calls Tryz.prog 10 #[.pointer (some ⟨S, 0, none⟩), v] w (LoadTo w S lo hi (loadN lo hi ps [] [])) := by
  have HH := hid h; have HT := hid ht; have HPB := hid hb; have HSL := hid h.lt; have HR := hid h.rng
  obtain ⟨pa, pc, rfl, p1, p2, p3, he⟩ := hv
  have HE := hid he; have HPL := hid hl
  clear h hb ht he p3
  go_enter Tryz.func10, Tryz.ntmps10
  go_upto_region 1 with (fail)
  refine wp_region_held_drew (S := fun W => Later w W) (by kernel_rfl) (Later.drew w) (fun hS => ?_)
  obtain ⟨w1, hw1⟩ : ∃ W, W = w.drew := ⟨_, rfl⟩
  rw [← hw1] at hS ⊢
  clear hw1
  refine takeH (i := 0) (v := .pointer (some ⟨S, 0, none⟩)) rfl rfl (by kernel_rfl) (by kernel_rfl) (by kernel_rfl) (fun _ _ _ h => h) (Or.inl ⟨by rfl, ?_⟩) hS ?_
  · intro w hS'
    clear hS hS'
    go_simp
  simp only [List.set]
  refine takeH (i := 1) (v := .pointer (some ⟨S, 0, none⟩)) rfl rfl (by kernel_rfl) (by kernel_rfl) (by kernel_rfl) (fun _ _ _ h => h) (Or.inl ⟨by rfl, ?_⟩) hS ?_
  · intro w hS'
    have zf0 := (cell_obj (i := 0) (hS'.obj HH.out.obj) (v := .int .i64 lo) rfl)
    clear hS hS'
    go_simp
  simp only [List.set]
  refine takeH (i := 2) (v := .pointer (some ⟨S, 0, none⟩)) rfl rfl (by kernel_rfl) (by kernel_rfl) (by kernel_rfl) (fun _ _ _ h => h) (Or.inl ⟨by rfl, ?_⟩) hS ?_
  · intro w hS'
    have zf0 := (cell_obj (i := 0) (hS'.obj HH.out.obj) (v := .int .i64 lo) rfl)
    clear hS hS'
    go_simp
  simp only [List.set]
  refine takeH (i := 3) (v := .int .i64 lo) rfl rfl (by kernel_rfl) (by kernel_rfl) (by kernel_rfl) (fun _ _ _ h => h) (Or.inl ⟨by rfl, ?_⟩) hS ?_
  · intro w hS'
    have zf0 := (cell_obj (i := 0) (hS'.obj HH.out.obj) (v := .int .i64 lo) rfl)
    clear hS hS'
    go_simp
  simp only [List.set]
  refine takeH (i := 4) (v := .pointer (some ⟨S, 0, none⟩)) rfl rfl (by kernel_rfl) (by kernel_rfl) (by kernel_rfl) (fun _ _ _ h => h) (Or.inl ⟨by rfl, ?_⟩) hS ?_
  · intro w hS'
    clear hS hS'
    go_simp
  simp only [List.set]
  refine takeH (i := 5) (v := .pointer (some ⟨S, 0, none⟩)) rfl rfl (by kernel_rfl) (by kernel_rfl) (by kernel_rfl) (fun _ _ _ h => h) (Or.inl ⟨by rfl, ?_⟩) hS ?_
  · intro w hS'
    have zf0 := (cell_obj (i := 0) (hS'.obj HH.out.obj) (v := .int .i64 lo) rfl)
    clear hS hS'
    go_simp
  simp only [List.set]
  refine takeH (i := 6) (v := .pointer (some ⟨S, 1, none⟩)) rfl rfl (by kernel_rfl) (by kernel_rfl) (by kernel_rfl) (fun _ _ _ h => h) (Or.inl ⟨by rfl, ?_⟩) hS ?_
  · intro w hS'
    have zf0 := (cell_obj (i := 0) (hS'.obj HH.out.obj) (v := .int .i64 lo) rfl)
    clear hS hS'
    go_simp
  simp only [List.set]
  refine takeH (i := 7) (v := .int .i64 hi) rfl rfl (by kernel_rfl) (by kernel_rfl) (by kernel_rfl) (fun _ _ _ h => h) (Or.inl ⟨by rfl, ?_⟩) hS ?_
  · intro w hS'
    have zf0 := (cell_obj (i := 1) (hS'.obj HH.out.obj) (v := .int .i64 hi) rfl)
    clear hS hS'
    go_simp
  simp only [List.set]
  refine wpAnyH_ready (rs := [8]) (by kernel_rfl) (by simp) (AllReadyH.cons rfl (fun K hK => ?_) AllReadyH.nil)
  go_simp
  refine (new_any lo hi w1 HR.out).mono ?_
  rintro e w2 ⟨N, Mn, rfl, hN, hM, hst, hL2⟩
  have HN := hid hN; have HMn := hid hM; have HST2 := hid hst
  have HS1 := hid hS
  have HL2 := hid (Later.trans _ _ _ hS hL2)
  refine hK.out _ _ (Later.trans _ _ _ hS hL2) (fun hS => ?_)
  clear hK K hst hL2 hN hM
  try simp only [List.getElem_toArray, List.getElem_cons_succ, List.getElem_cons_zero, Act.put, List.setIfInBounds_toArray, List.set]
  refine takeH (i := 9) (v := .tuple #[.pointer (some ⟨N, 0, none⟩), .nilIface]) rfl rfl (by kernel_rfl) (by kernel_rfl) (by kernel_rfl) (fun _ _ _ h => h) (Or.inl ⟨by rfl, ?_⟩) hS ?_
  · intro w hS'
    clear hS hS'
    go_simp
  simp only [List.set]
  refine takeH (i := 10) (v := .pointer (some ⟨N, 0, none⟩)) rfl rfl (by kernel_rfl) (by kernel_rfl) (by kernel_rfl) (fun _ _ _ h => h) (Or.inl ⟨by rfl, ?_⟩) hS ?_
  · intro w hS'
    clear hS hS'
    go_simp
  simp only [List.set]
  refine takeH (i := 11) (v := .nilIface) rfl rfl (by kernel_rfl) (by kernel_rfl) (by kernel_rfl) (fun _ _ _ h => h) (Or.inl ⟨by rfl, ?_⟩) hS ?_
  · intro w hS'
    clear hS hS'
    go_simp
  simp only [List.set]
  refine takeH (i := 12) (v := .pointer (some ⟨N, 0, none⟩)) rfl rfl (by kernel_rfl) (by kernel_rfl) (by kernel_rfl) (fun _ _ _ h => h) (Or.inl ⟨by rfl, ?_⟩) hS ?_
  · intro w hS'
    clear hS hS'
    go_simp
  simp only [List.set]
  refine takeH (i := 13) (v := .nilIface) rfl rfl (by kernel_rfl) (by kernel_rfl) (by kernel_rfl) (fun _ _ _ h => h) (Or.inl ⟨by rfl, ?_⟩) hS ?_
  · intro w hS'
    clear hS hS'
    go_simp
  simp only [List.set]
  refine wpAnyH_done (by kernel_rfl) ?_ _
  clear hS
  have hmm := @run_makeMap Tryz.prog
  obtain ⟨w3, hw3⟩ : ∃ W, W = w2.alloc (.map #[] 0) := ⟨_, rfl⟩
  obtain ⟨Q, hQ⟩ : ∃ Q, Q = w2.heap.size := ⟨_, rfl⟩
  go_upto_region 3 with (fail)
  rw [← hw3, ← hQ]
  have HQN : Hid (N ≠ Mn ∧ N < Q ∧ Mn < Q ∧ w.heap.size ≤ N ∧ w.heap.size ≤ Mn) := hid (by
    have h1 := (HST2.out (fun _ => False) (fun h => h) (fun h => h))
    have h2 := h1.lt
    have h3 := h1.map.lt
    have h4 := HS1.out.size
    have := HN.out
    have := HMn.out
    exact ⟨h1.ne, by omega, by omega, by omega, by omega⟩)
  have HLD : Hid (LdSt w w3 N Mn Q lo hi [] [] 0) := hid (by
    have hl3 : Later w2 w3 := by rw [hw3]; exact Later.alloc _ _
    exact ⟨(HST2.out (LX w N Mn Q) (fun h => h.2.1 rfl) (fun h => h.2.2.1 rfl)).later hl3, by rw [hw3, hQ]; exact MapIn.made w2, Later.trans _ _ _ HL2.out hl3⟩)
  clear hw3 hQ hmm HST2 HN HMn HS1
  have hpl : ps.length ≤ 64 := HPL.out
  go_wp2_with fail
  obtain ⟨R1, hR1⟩ : ∃ RR_ : (Nat → Value) → World → Prop, RR_ = (fun us wx => ∃ (i : Nat) (seen : List Int) (Lx : List CellP), us 28 = .int .i64 i ∧ i ≤ ps.length ∧ LdSt w wx N Mn Q lo hi Lx seen i ∧ loadN lo hi ps [] [] = loadN lo hi (ps.drop i) seen Lx) := ⟨_, rfl⟩
  obtain ⟨mu1, hmu1⟩ : ∃ mu : (Nat → Value) → World → Nat, mu = (fun us _ => ps.length - (intOf (us 28)).toNat) := ⟨_, rfl⟩
  have HR1 := hid hR1; have Hmu1 := hid hmu1; clear hR1 hmu1
  refine wp_loop_frame' [false, false, false, false, true, false, false, false, false, true, true, true, true, false, false, false, false, false, false, false, false, false, false, false, false, false, false, false, true, true, true, true, true, true, true, true, true, true, true, true, true, true, true, true, true, true, true, true, true, true, true, true, true, true, true, true, true, true, true, true, true, true, true, true, true, true, true, true, true, true, true, true, true, true, true, true, true] R1 _ mu1 HR1.out ?_ ?_
  · exact ⟨0, [], [], rfl, Nat.zero_le _, HLD.out, rfl⟩
  clear HLD
  intro us1 wx hrel
  obtain ⟨i, seen, Lx, h28, hie, hld, hgo⟩ := hrel
  simp only [frameOf, Nat.reduceAdd, h28]
  have Hh28 := hid h28; clear h28
  have HLD := hid hld; have HGO := hid hgo
  clear hld hgo
  by_cases hlt : i < ps.length
  case neg =>
    have hie2 : i = ps.length := by omega
    subst hie2
    have HLR : Hid (loadN lo hi ps [] [] = (0, Lx)) := hid (by rw [HGO.out, List.drop_length]; rfl)
    clear HGO hlt hie
    have HQ2 : Hid (S ≠ N ∧ S ≠ Mn) := hid (by have := HSL.out; have := HQN.out; omega)
    go_upto_region 17 with (fail)
    have HNO := hid HLD.out.st.obj
    have HSO := hid (HLD.out.keep.obj HH.out.obj)
    obtain ⟨wd, hwd⟩ : ∃ W, W = wx.drew := ⟨_, rfl⟩
    have HLd : Hid (Later wx wd) := hid (by rw [hwd]; exact Later.drew wx)
    refine wp_region_held_drew (S := fun W => Keeps (fun b => b ≠ S) wx W) (by kernel_rfl) ((Later.drew wx).keeps _) (fun hS => ?_)
    rw [← hwd] at hS ⊢
    clear hwd
    refine takeH (i := 0) (v := .pointer (some ⟨S, 0, none⟩)) rfl rfl (by kernel_rfl) (by kernel_rfl) (by kernel_rfl) (fun _ _ _ h => h) (Or.inl ⟨by rfl, ?_⟩) hS ?_
    · intro w hS'
      clear hS hS'
      go_simp
    simp only [List.set]
    refine takeH (i := 1) (v := .pointer (some ⟨S, 0, none⟩)) rfl rfl (by kernel_rfl) (by kernel_rfl) (by kernel_rfl) (fun _ _ _ h => h) (Or.inl ⟨by rfl, ?_⟩) hS ?_
    · intro w hS'
      clear hS hS'
      go_simp
    simp only [List.set]
    refine takeH (i := 2) (v := .pointer (some ⟨N, 0, none⟩)) rfl rfl (by kernel_rfl) (by kernel_rfl) (by kernel_rfl) (fun _ _ _ h => h) (Or.inl ⟨by rfl, ?_⟩) hS ?_
    · intro w hS'
      clear hS hS'
      go_simp
    simp only [List.set]
    refine takeH (i := 3) (v := .pointer (some ⟨N, 0, none⟩)) rfl rfl (by kernel_rfl) (by kernel_rfl) (by kernel_rfl) (fun _ _ _ h => h) (Or.inl ⟨by rfl, ?_⟩) hS ?_
    · intro w hS'
      clear hS hS'
      go_simp
    simp only [List.set]
    refine takeH (i := 4) (v := .pointer (some ⟨N, 2, none⟩)) rfl rfl (by kernel_rfl) (by kernel_rfl) (by kernel_rfl) (fun _ _ _ h => h) (Or.inl ⟨by rfl, ?_⟩) hS ?_
    · intro w hS'
      clear hS hS'
      go_simp
    simp only [List.set]
    refine takeH (i := 5) (v := .map (some Mn)) rfl rfl (by kernel_rfl) (by kernel_rfl) (by kernel_rfl) (fun _ _ _ h => h) (Or.inl ⟨by rfl, ?_⟩) hS ?_
    · intro w hS'
      have zf0 := (cell_obj (i := 2) (hS'.obj (Ne.symm HQ2.out.1) HNO.out) (v := .map (some Mn)) rfl)
      clear hS hS'
      go_simp
    simp only [List.set]
    refine takeH (i := 6) (v := .pointer (some ⟨N, 0, none⟩)) rfl rfl (by kernel_rfl) (by kernel_rfl) (by kernel_rfl) (fun _ _ _ h => h) (Or.inl ⟨by rfl, ?_⟩) hS ?_
    · intro w hS'
      clear hS hS'
      go_simp
    simp only [List.set]
    refine takeH (i := 7) (v := .pointer (some ⟨N, 0, none⟩)) rfl rfl (by kernel_rfl) (by kernel_rfl) (by kernel_rfl) (fun _ _ _ h => h) (Or.inl ⟨by rfl, ?_⟩) hS ?_
    · intro w hS'
      clear hS hS'
      go_simp
    simp only [List.set]
    refine takeH (i := 8) (v := .pointer (some ⟨N, 3, none⟩)) rfl rfl (by kernel_rfl) (by kernel_rfl) (by kernel_rfl) (fun _ _ _ h => h) (Or.inl ⟨by rfl, ?_⟩) hS ?_
    · intro w hS'
      clear hS hS'
      go_simp
    simp only [List.set]
    refine takeH (i := 9) (v := .int .i64 (weightL Lx)) rfl rfl (by kernel_rfl) (by kernel_rfl) (by kernel_rfl) (fun _ _ _ h => h) (Or.inl ⟨by rfl, ?_⟩) hS ?_
    · intro w hS'
      have zf0 := (cell_obj (i := 3) (hS'.obj (Ne.symm HQ2.out.1) HNO.out) (v := .int .i64 (weightL Lx)) rfl)
      clear hS hS'
      go_simp
    simp only [List.set]
    refine takeH (i := 10) (v := .pointer (some ⟨S, 0, none⟩)) rfl rfl (by kernel_rfl) (by kernel_rfl) (by kernel_rfl) (fun _ _ _ h => h) (Or.inl ⟨by rfl, ?_⟩) hS ?_
    · intro w hS'
      clear hS hS'
      go_simp
    simp only [List.set]
    refine takeH (i := 11) (v := .pointer (some ⟨S, 2, none⟩)) rfl rfl (by kernel_rfl) (by kernel_rfl) (by kernel_rfl) (fun _ _ _ h => h) (Or.inl ⟨by rfl, ?_⟩) hS ?_
    · intro w hS'
      clear hS hS'
      go_simp
    simp only [List.set]
    have HSd := hid (HLd.out.obj HSO.out)
    have s2 := cell_obj (i := 2) HSd.out (v := .map (some M)) rfl
    have g2 := free_obj (i := 2) HSd.out
    refine wpAnyH_ready (rs := [12]) (by kernel_rfl) (by simp) (AllReadyH.cons rfl (fun K hK => ?_) AllReadyH.nil)
    go_simp
    clear s2 g2
    obtain ⟨we, hwe⟩ : ∃ W, W = wd.setCell ⟨S, 2, none⟩ (.map (some Mn)) := ⟨_, rfl⟩
    have HSe := hid (obj_setCell (i := 2) HSd.out (.map (some Mn)))
    have HKe : Hid (Keeps (fun b => b ≠ S) wx we) := hid (by rw [hwe]; exact hS.setCell (.inl (by simp)) _)
    simp only [List.setIfInBounds_toArray, List.set] at HSe
    rw [← hwe] at HSe ⊢
    refine hK.out _ _ HKe.out (fun hS => ?_)
    clear hK K hwe HSd
    try simp only [List.getElem_toArray, List.getElem_cons_succ, List.getElem_cons_zero, Act.put, List.setIfInBounds_toArray, List.set]
    refine takeH (i := 13) (v := .pointer (some ⟨S, 0, none⟩)) rfl rfl (by kernel_rfl) (by kernel_rfl) (by kernel_rfl) (fun _ _ _ h => h) (Or.inl ⟨by rfl, ?_⟩) hS ?_
    · intro w hS'
      clear hS hS'
      go_simp
    simp only [List.set]
    refine takeH (i := 14) (v := .pointer (some ⟨S, 3, none⟩)) rfl rfl (by kernel_rfl) (by kernel_rfl) (by kernel_rfl) (fun _ _ _ h => h) (Or.inl ⟨by rfl, ?_⟩) hS ?_
    · intro w hS'
      clear hS hS'
      go_simp
    simp only [List.set]
    have s3 := cell_obj (i := 3) HSe.out (v := .int .i64 (weightL L)) rfl
    have g3 := free_obj (i := 3) HSe.out
    refine wpAnyH_ready (rs := [15]) (by kernel_rfl) (by simp) (AllReadyH.cons rfl (fun K hK => ?_) AllReadyH.nil)
    go_simp
    clear s3 g3
    obtain ⟨wf, hwf⟩ : ∃ W, W = we.setCell ⟨S, 3, none⟩ (.int .i64 (weightL Lx)) := ⟨_, rfl⟩
    have HSf := hid (obj_setCell (i := 3) HSe.out (.int .i64 (weightL Lx)))
    have HKf : Hid (Keeps (fun b => b ≠ S) wx wf) := hid (by rw [hwf]; exact hS.setCell (.inl (by simp)) _)
    simp only [List.setIfInBounds_toArray, List.set] at HSf
    rw [← hwf] at HSf ⊢
    refine hK.out _ _ HKf.out (fun hS => ?_)
    clear hK K hwf HSe HKe
    try simp only [List.getElem_toArray, List.getElem_cons_succ, List.getElem_cons_zero, Act.put, List.setIfInBounds_toArray, List.set]
    refine wpAnyH_done (by kernel_rfl) ?_ _
    clear hS
    go_wp2_with fail
    go_ret
    refine loadTo_ok HLR.out ⟨rfl, (HLD.out.keep.keeps _).trans HKf.out, Mn, HQN.out.2.2.2.2, ?_, fun V' v1 v2 v3 => ⟨HSf.out, (HLD.out.st.map.kept HKf.out (Ne.symm HQ2.out.2) fun b hb _ => ?_).mono fun b hb _ => v1 b hb.1 hb.2.2.1, HLD.out.st.st, HLD.out.st.ok, v2, v3, HQ2.out.2, HR.out⟩⟩
    · have := HLD.out.st.map.lt; have := HKf.out.size; omega
    · have := HSL.out; have := hb.1; omega
  have HLT := hid hlt
  have hEi := HE.out i hlt
  have hXB := HPB.out _ (List.getElem_mem hlt)
  have hDR := drop_at hlt
  generalize ps[i] = x at hEi hXB hDR
  obtain ⟨b, o, hpa, -, q0, bv, q1, hbv⟩ := hEi
  subst hpa
  obtain ⟨g, bs⟩ := x
  simp only at q0 hbv hXB
  have HBV := hid hbv
  have HXB := hid hXB
  have HDR := hid hDR
  clear hbv hXB hDR
  replace q0 := HLD.out.keep.cell q0
  replace q1 := HLD.out.keep.cell q1
  obtain ⟨T, hT⟩ : ∃ T, T = wx.heap.size := ⟨_, rfl⟩
  obtain ⟨ba, bc, rfl⟩ : ∃ ba bc, bv = .slice ba bs.length bc := by obtain ⟨ba, bc, h, -⟩ := HBV.out; exact ⟨ba, bc, h⟩
  go_upto_region 6 with (fail)
  rw [← hT]
  obtain ⟨wy, hwy⟩ : ∃ W, W = wx.alloc (.cells #[.int .i64 g, .slice ba bs.length bc] 47 (0, 0)) := ⟨_, rfl⟩
  have HLY : Hid (Later wx wy) := hid (by rw [hwy]; exact Later.alloc _ _)
  have HTX := hid hT
  have HTY : Hid (wy.heap[T]? = some (.cells #[.int .i64 g, .slice ba bs.length bc] 47 (0, 0))) := hid (by rw [hwy, hT]; exact obj_new _ _)
  rw [← hwy]
  clear hwy hT q0 q1
  have g0 := cell_obj (i := 0) HTY.out (v := .int .i64 g) rfl
  by_cases hr : g < 0 ∨ 32 ≤ g
  · have HER := hid (loadN_range (lo := lo) (hi := hi) (x := (g, bs)) (ps := ps.drop (i + 1)) (seen := seen) (L := Lx) hr)
    have HLR : Hid ((loadN lo hi ps [] []).1 = 4) := hid (by rw [HGO.out, HDR.out, HER.out])
    have HLA := hid (Later.trans _ _ _ HLD.out.keep HLY.out)
    clear HER HGO
    by_cases hg0 : g < 0
    · go_wp2_with fail
      go_ret
      exact loadTo_err HLR.out (by decide) ⟨rfl, HLA.out⟩
    · have hg1 : ¬ g < 32 := by omega
      clear hr
      go_wp2_with fail
      go_ret
      exact loadTo_err HLR.out (by decide) ⟨rfl, HLA.out⟩
  have HRG := hid hr
  have hg0 : ¬ g < 0 := by omega
  have hg1 : g < 32 := by omega
  clear hr
  go_upto_region 8 with (fail)
  have hM := (HLD.out.map.later HLY.out)
  have hlk := hM.look Tryz.underlying81 zero_unit g HXB.out.1
  clear hM
  by_cases hs : g ∈ seen
  · have HER := hid (loadN_twice (lo := lo) (hi := hi) (x := (g, bs)) (ps := ps.drop (i + 1)) (seen := seen) (L := Lx) HRG.out hs)
    have HLR : Hid ((loadN lo hi ps [] []).1 = 6) := hid (by rw [HGO.out, HDR.out, HER.out])
    have HLA := hid (Later.trans _ _ _ HLD.out.keep HLY.out)
    have hf : seenF seen g = some (.agg #[]) := if_pos hs
    rw [hf] at hlk
    simp only [Option.getD_some, Option.isSome_some] at hlk
    change (Instr.lookup 81 (.map (some Q)) (.int .i64 g) true).run Tryz.prog wy = _ at hlk
    clear HER HGO hs hf
    go_wp2_with fail
    go_ret
    exact loadTo_err HLR.out (by decide) ⟨rfl, Later.trans _ _ _ HLA.out (Later.alloc _ _)⟩
  have HNS := hid hs
  have hf : seenF seen g = none := if_neg hs
  rw [hf] at hlk
  simp only [Option.getD_none, Option.isSome_none] at hlk
  change (Instr.lookup 81 (.map (some Q)) (.int .i64 g) true).run Tryz.prog wy = _ at hlk
  clear hs hf
  go_upto_region 11 with (fail)
  obtain ⟨wz, hwz⟩ : ∃ W, W = wy.alloc (.cells #[] 82) := ⟨_, rfl⟩
  have HLZ : Hid (Later wy wz) := hid (by rw [hwz]; exact Later.alloc _ _)
  rw [← hwz]
  clear hwz hlk
  have HTZ := hid (HLZ.out.obj HTY.out)
  clear g0
  have g0 := cell_obj (i := 0) HTZ.out (v := .int .i64 g) rfl
  have hMZ := HLD.out.map.later (Later.trans _ _ _ HLY.out HLZ.out)
  go_wp2_with (refine wpList_in_put (I := intI) Tryz.underlying81 rfl _ _ _ rfl rfl hMZ (by have := HPL.out; unfold maxLen; omega) g HXB.out.1 rfl _ rfl ?_)
  intro wm hMM hKM
  rw [seen_upd] at hMM
  have HMM := hid hMM
  have HTQ : Hid (T ≠ Q) := hid (by have h1 := HLD.out.map.lt; have h2 := (Array.getElem?_eq_some_iff.1 HTY.out).1; have := HTX.out; omega)
  have HTM := hid (hKM.obj HTQ.out HTZ.out)
  have HLM : Hid (Later w wm) := hid (by
    refine Keeps.later (((Later.trans _ _ _ (Later.trans _ _ _ HLD.out.keep HLY.out) HLZ.out).keeps (fun _ => True)).low (hKM.mono fun b _ (hb : b < w.heap.size) => ?_))
    have := HQN.out; omega)
  have HSM : Hid (StAt (LX w N Mn Q) wm N Mn lo hi Lx) := hid ((HLD.out.st.later (Later.trans _ _ _ HLY.out HLZ.out)).kept hKM (by have := HQN.out; omega) (by have := HQN.out; omega) fun b hb _ => hb.2.2.2)
  clear hMM hKM hMZ g0
  go_upto_region 12 with (fail)
  obtain ⟨wn, hwn⟩ : ∃ W, W = wm.drew := ⟨_, rfl⟩
  have HLN : Hid (Later wm wn) := hid (by rw [hwn]; exact Later.drew wm)
  refine wp_region_held_drew (S := fun W => Later wm W) (by kernel_rfl) (Later.drew wm) (fun hS => ?_)
  rw [← hwn] at hS ⊢
  clear hwn
  refine takeH (i := 0) (v := .pointer (some ⟨T, 0, none⟩)) rfl rfl (by kernel_rfl) (by kernel_rfl) (by kernel_rfl) (fun _ _ _ h => h) (Or.inl ⟨by rfl, ?_⟩) hS ?_
  · intro w hS'
    clear hS hS'
    go_simp
  simp only [List.set]
  refine takeH (i := 1) (v := .int .i64 g) rfl rfl (by kernel_rfl) (by kernel_rfl) (by kernel_rfl) (fun _ _ _ h => h) (Or.inl ⟨by rfl, ?_⟩) hS ?_
  · intro w hS'
    have zf0 := (cell_obj (i := 0) (hS'.obj HTM.out) (v := .int .i64 g) rfl)
    clear hS hS'
    go_simp
  simp only [List.set]
  refine takeH (i := 2) (v := .pointer (some ⟨S, 0, none⟩)) rfl rfl (by kernel_rfl) (by kernel_rfl) (by kernel_rfl) (fun _ _ _ h => h) (Or.inl ⟨by rfl, ?_⟩) hS ?_
  · intro w hS'
    clear hS hS'
    go_simp
  simp only [List.set]
  refine takeH (i := 3) (v := .pointer (some ⟨S, 0, none⟩)) rfl rfl (by kernel_rfl) (by kernel_rfl) (by kernel_rfl) (fun _ _ _ h => h) (Or.inl ⟨by rfl, ?_⟩) hS ?_
  · intro w hS'
    clear hS hS'
    go_simp
  simp only [List.set]
  refine takeH (i := 4) (v := .pointer (some ⟨S, 0, none⟩)) rfl rfl (by kernel_rfl) (by kernel_rfl) (by kernel_rfl) (fun _ _ _ h => h) (Or.inl ⟨by rfl, ?_⟩) hS ?_
  · intro w hS'
    clear hS hS'
    go_simp
  simp only [List.set]
  refine takeH (i := 5) (v := .int .i64 lo) rfl rfl (by kernel_rfl) (by kernel_rfl) (by kernel_rfl) (fun _ _ _ h => h) (Or.inl ⟨by rfl, ?_⟩) hS ?_
  · intro w hS'
    have zf0 := (cell_obj (i := 0) (hS'.obj (HLM.out.obj HH.out.obj)) (v := .int .i64 lo) rfl)
    clear hS hS'
    go_simp
  simp only [List.set]
  have HLDN : Hid (LdSt w wn N Mn Q lo hi Lx (g :: seen) (i + 1)) := hid ⟨HSM.out.later HLN.out, HMM.out.later HLN.out, Later.trans _ _ _ HLM.out HLN.out⟩
  by_cases hlo : g < lo
  · have HER := hid (loadN_pass (lo := lo) (hi := hi) (x := (g, bs)) (ps := ps.drop (i + 1)) (seen := seen) (L := Lx) HRG.out HNS.out (.inl hlo))
    refine takeH (i := 6) (v := .bool true) rfl rfl (by kernel_rfl) (by kernel_rfl) (by kernel_rfl) (fun _ _ _ h => h) (Or.inl ⟨by rfl, ?_⟩) hS ?_
    · intro w hS'
      clear hS hS'
      go_simp
    simp only [List.set]
    refine takeH (i := 7) (v := .bool true) rfl rfl (by kernel_rfl) (by kernel_rfl) (by kernel_rfl) (fun _ _ _ h => h) (Or.inl ⟨by rfl, ?_⟩) hS ?_
    · intro w hS'
      clear hS hS'
      go_simp
    simp only [List.set]
    refine takeH (i := 8) (v := undef) rfl rfl (by kernel_rfl) (by kernel_rfl) (by kernel_rfl) (fun _ _ _ h => h) (Or.inr ⟨by kernel_rfl, rfl⟩) hS ?_
    simp only [List.set]
    refine takeH (i := 9) (v := undef) rfl rfl (by kernel_rfl) (by kernel_rfl) (by kernel_rfl) (fun _ _ _ h => h) (Or.inr ⟨by kernel_rfl, rfl⟩) hS ?_
    simp only [List.set]
    refine takeH (i := 10) (v := undef) rfl rfl (by kernel_rfl) (by kernel_rfl) (by kernel_rfl) (fun _ _ _ h => h) (Or.inr ⟨by kernel_rfl, rfl⟩) hS ?_
    simp only [List.set]
    refine takeH (i := 11) (v := undef) rfl rfl (by kernel_rfl) (by kernel_rfl) (by kernel_rfl) (fun _ _ _ h => h) (Or.inr ⟨by kernel_rfl, rfl⟩) hS ?_
    simp only [List.set]
    refine takeH (i := 12) (v := undef) rfl rfl (by kernel_rfl) (by kernel_rfl) (by kernel_rfl) (fun _ _ _ h => h) (Or.inr ⟨by kernel_rfl, rfl⟩) hS ?_
    simp only [List.set]
    refine takeH (i := 13) (v := undef) rfl rfl (by kernel_rfl) (by kernel_rfl) (by kernel_rfl) (fun _ _ _ h => h) (Or.inr ⟨by kernel_rfl, rfl⟩) hS ?_
    simp only [List.set]
    refine takeH (i := 14) (v := undef) rfl rfl (by kernel_rfl) (by kernel_rfl) (by kernel_rfl) (fun _ _ _ h => h) (Or.inr ⟨by kernel_rfl, rfl⟩) hS ?_
    simp only [List.set]
    refine takeH (i := 15) (v := .bool true) rfl rfl (by kernel_rfl) (by kernel_rfl) (by kernel_rfl) (fun _ _ _ h => h) (Or.inl ⟨by rfl, ?_⟩) hS ?_
    · intro w hS'
      clear hS hS'
      go_simp
    simp only [List.set]
    refine wpAnyH_done (by kernel_rfl) ?_ _
    clear hlo hS
    have hi2 : (i : Int) + 1 ≤ 9223372036854775807 := by have := HPL.out; have := HLT.out; omega
    go_wp2_with fail
    refine Round.mk' HR1.out Hmu1.out rfl ?_ ?_
    · exact ⟨i + 1, g :: seen, Lx, by show Value.int .i64 ((i : Int) + 1) = _; rw [Int.natCast_add]; rfl, HLT.out, HLDN.out, by rw [HGO.out, HDR.out, HER.out]⟩
    · show ps.length - (intOf (.int .i64 ((i : Int) + 1))).toNat < ps.length - (intOf (us1 28)).toNat
      rw [Hh28.out]
      have := HLT.out
      simp only [intOf]
      omega
  refine takeH (i := 6) (v := .bool false) rfl rfl (by kernel_rfl) (by kernel_rfl) (by kernel_rfl) (fun _ _ _ h => h) (Or.inl ⟨by rfl, ?_⟩) hS ?_
  · intro w hS'
    clear hS hS'
    go_simp
  simp only [List.set]
  refine takeH (i := 7) (v := .bool false) rfl rfl (by kernel_rfl) (by kernel_rfl) (by kernel_rfl) (fun _ _ _ h => h) (Or.inl ⟨by rfl, ?_⟩) hS ?_
  · intro w hS'
    clear hS hS'
    go_simp
  simp only [List.set]
  refine takeH (i := 8) (v := .pointer (some ⟨T, 0, none⟩)) rfl rfl (by kernel_rfl) (by kernel_rfl) (by kernel_rfl) (fun _ _ _ h => h) (Or.inl ⟨by rfl, ?_⟩) hS ?_
  · intro w hS'
    clear hS hS'
    go_simp
  simp only [List.set]
  refine takeH (i := 9) (v := .int .i64 g) rfl rfl (by kernel_rfl) (by kernel_rfl) (by kernel_rfl) (fun _ _ _ h => h) (Or.inl ⟨by rfl, ?_⟩) hS ?_
  · intro w hS'
    have zf0 := (cell_obj (i := 0) (hS'.obj HTM.out) (v := .int .i64 g) rfl)
    clear hS hS'
    go_simp
  simp only [List.set]
  refine takeH (i := 10) (v := .pointer (some ⟨S, 0, none⟩)) rfl rfl (by kernel_rfl) (by kernel_rfl) (by kernel_rfl) (fun _ _ _ h => h) (Or.inl ⟨by rfl, ?_⟩) hS ?_
  · intro w hS'
    clear hS hS'
    go_simp
  simp only [List.set]
  refine takeH (i := 11) (v := .pointer (some ⟨S, 0, none⟩)) rfl rfl (by kernel_rfl) (by kernel_rfl) (by kernel_rfl) (fun _ _ _ h => h) (Or.inl ⟨by rfl, ?_⟩) hS ?_
  · intro w hS'
    clear hS hS'
    go_simp
  simp only [List.set]
  refine takeH (i := 12) (v := .pointer (some ⟨S, 1, none⟩)) rfl rfl (by kernel_rfl) (by kernel_rfl) (by kernel_rfl) (fun _ _ _ h => h) (Or.inl ⟨by rfl, ?_⟩) hS ?_
  · intro w hS'
    clear hS hS'
    go_simp
  simp only [List.set]
  refine takeH (i := 13) (v := .int .i64 hi) rfl rfl (by kernel_rfl) (by kernel_rfl) (by kernel_rfl) (fun _ _ _ h => h) (Or.inl ⟨by rfl, ?_⟩) hS ?_
  · intro w hS'
    have zf0 := (cell_obj (i := 1) (hS'.obj (HLM.out.obj HH.out.obj)) (v := .int .i64 hi) rfl)
    clear hS hS'
    go_simp
  simp only [List.set]
  by_cases hhi : hi ≤ g
  · have HER := hid (loadN_pass (lo := lo) (hi := hi) (x := (g, bs)) (ps := ps.drop (i + 1)) (seen := seen) (L := Lx) HRG.out HNS.out (.inr hhi))
    refine takeH (i := 14) (v := .bool true) rfl rfl (by kernel_rfl) (by kernel_rfl) (by kernel_rfl) (fun _ _ _ h => h) (Or.inl ⟨by rfl, ?_⟩) hS ?_
    · intro w hS'
      clear hS hS'
      go_simp
    simp only [List.set]
    refine takeH (i := 15) (v := .bool true) rfl rfl (by kernel_rfl) (by kernel_rfl) (by kernel_rfl) (fun _ _ _ h => h) (Or.inl ⟨by rfl, ?_⟩) hS ?_
    · intro w hS'
      clear hS hS'
      go_simp
    simp only [List.set]
    refine wpAnyH_done (by kernel_rfl) ?_ _
    clear hlo hhi hS
    have hi2 : (i : Int) + 1 ≤ 9223372036854775807 := by have := HPL.out; have := HLT.out; omega
    go_wp2_with fail
    refine Round.mk' HR1.out Hmu1.out rfl ?_ ?_
    · exact ⟨i + 1, g :: seen, Lx, by show Value.int .i64 ((i : Int) + 1) = _; rw [Int.natCast_add]; rfl, HLT.out, HLDN.out, by rw [HGO.out, HDR.out, HER.out]⟩
    · show ps.length - (intOf (.int .i64 ((i : Int) + 1))).toNat < ps.length - (intOf (us1 28)).toNat
      rw [Hh28.out]
      have := HLT.out
      simp only [intOf]
      omega
  have HIN : Hid (¬ (g < lo ∨ hi ≤ g)) := hid (by omega)
  refine takeH (i := 14) (v := .bool false) rfl rfl (by kernel_rfl) (by kernel_rfl) (by kernel_rfl) (fun _ _ _ h => h) (Or.inl ⟨by rfl, ?_⟩) hS ?_
  · intro w hS'
    clear hS hS'
    go_simp
  simp only [List.set]
  refine takeH (i := 15) (v := .bool false) rfl rfl (by kernel_rfl) (by kernel_rfl) (by kernel_rfl) (fun _ _ _ h => h) (Or.inl ⟨by rfl, ?_⟩) hS ?_
  · intro w hS'
    clear hS hS'
    go_simp
  simp only [List.set]
  refine wpAnyH_done (by kernel_rfl) ?_ _
  clear hlo hhi hS
  have g0 := cell_obj (i := 0) (HLN.out.obj HTM.out) (v := .int .i64 g) rfl
  have g1 := cell_obj (i := 1) (HLN.out.obj HTM.out) (v := .slice ba bs.length bc) rfl
  go_wp2_with fail
  refine (read_any g (.slice ba bs.length bc) bs wn HLDN.out.st (HBV.out.bytes_later HLDN.out.keep) HXB.out.2 (HT.out.later HLDN.out.keep) HLDN.out.st.map.lt).mono ?_
  rintro e w9 hp
  unfold ReadTo at hp
  clear g0 g1
  by_cases hok : (readE lo hi g Lx bs).1 = 0
  · rw [if_pos hok] at hp
    obtain ⟨rfl, hk9, hst9⟩ := hp
    have HER := hid (loadN_read (lo := lo) (hi := hi) (x := (g, bs)) (ps := ps.drop (i + 1)) (seen := seen) (L := Lx) HRG.out HNS.out HIN.out hok)
    have HLD9 : Hid (LdSt w w9 N Mn Q lo hi (readE lo hi g Lx bs).2 (g :: seen) (i + 1)) := hid (by
      have hq := HLDN.out.map.lt
      refine ⟨hst9 _ (fun b hb _ => hb) (fun b h1 _ => ⟨?_, ?_, ?_, ?_⟩) (fun h => h.2.1 rfl) (fun h => h.2.2.1 rfl), HLDN.out.map.kept hk9 ?_, Keeps.later ((HLDN.out.keep.keeps (fun _ => True)).low (hk9.mono fun b _ (hb : b < w.heap.size) => ?_))⟩
      · have := HLDN.out.keep.size; omega
      · have := HQN.out; omega
      · have := HQN.out; omega
      · omega
      · have := HQN.out; omega
      · have := HQN.out; omega)
    clear hok hk9 hst9
    have hi2 : (i : Int) + 1 ≤ 9223372036854775807 := by have := HPL.out; have := HLT.out; omega
    go_wp2_with fail
    refine Round.mk' HR1.out Hmu1.out rfl ?_ ?_
    · exact ⟨i + 1, g :: seen, _, by show Value.int .i64 ((i : Int) + 1) = _; rw [Int.natCast_add]; rfl, HLT.out, HLD9.out, by rw [HGO.out, HDR.out, HER.out]⟩
    · show ps.length - (intOf (.int .i64 ((i : Int) + 1))).toNat < ps.length - (intOf (us1 28)).toNat
      rw [Hh28.out]
      have := HLT.out
      simp only [intOf]
      omega
  · rw [if_neg hok] at hp
    obtain ⟨rfl, hk9⟩ := hp
    have HER := hid (loadN_bad (lo := lo) (hi := hi) (x := (g, bs)) (ps := ps.drop (i + 1)) (seen := seen) (L := Lx) HRG.out HNS.out HIN.out hok)
    have HLA : Hid (Later w w9) := hid (Keeps.later ((HLDN.out.keep.keeps (fun _ => True)).low (hk9.mono fun b _ (hb : b < w.heap.size) => by have := HQN.out; omega)))
    have HNZ := hid hok
    have HLR : Hid ((loadN lo hi ps [] []).1 = (readE lo hi g Lx bs).1) := hid (by rw [HGO.out, HDR.out, HER.out])
    generalize (readE lo hi g Lx bs).1 = k at *
    clear hok hk9
    go_wp2_with fail
    go_ret
    exact loadTo_err HLR.out HNZ.out ⟨rfl, HLA.out⟩
end Go.Proofs.YtgcnchmnciihnaaGreatDoor
