/-
  PROVED HERE: the contract of Store.Put.
-/
import Derived.Test.YtgcnchmnciihnaaGreatDoorGPutAt
import Derived.Test.YtgcnchmnciihnaaGreatDoorGAppX
namespace Go.Proofs.YtgcnchmnciihnaaGreatDoor
set_option linter.unusedSimpArgs false
set_option linter.unusedVariables false
open Go.RowKit

def PutErrTo (w : World) (k : Int) (e : Ending) (w' : World) : Prop := e = .returned (.iface 39 (.int .i64 k)) ∧ Later w w'
def PutOkTo (V : Nat → Prop) (w : World) (S M : Nat) (lo hi : Int) (L : List CellP) (e : Ending) (w' : World) : Prop :=
  e = .returned .nilIface ∧ Keeps (fun b => b ≠ S ∧ b ≠ M) w w' ∧ ∀ V' : Nat → Prop, (∀ b, V b → b < w.heap.size → V' b) → (∀ b, w.heap.size ≤ b → b < w'.heap.size → V' b) → ¬ V' S → ¬ V' M → StAt V' w' S M lo hi L
def PutWith (V : Nat → Prop) (w : World) (S M : Nat) (lo hi : Int) (L : List CellP) (c : CellP) (e : Ending) (w' : World) : Prop :=
  if putErr lo hi L c = 0 then PutOkTo V w S M lo hi (insC c L) e w' else PutErrTo w (putErr lo hi L c) e w'
theorem putWith_err {V : Nat → Prop} {w w' : World} {S M : Nat} {lo hi k : Int} {L : List CellP} {c : CellP} {e : Ending} (h : putErr lo hi L c = k) (hk : k ≠ 0) (hp : PutErrTo w k e w') : PutWith V w S M lo hi L c e w' := by
  unfold PutWith
  rw [h, if_neg hk]; exact hp
theorem putWith_ok {V : Nat → Prop} {w w' : World} {S M : Nat} {lo hi : Int} {L : List CellP} {c : CellP} {e : Ending} (h : putErr lo hi L c = 0) (hp : PutOkTo V w S M lo hi (insC c L) e w') : PutWith V w S M lo hi L c e w' := by
  unfold PutWith
  rw [if_pos h]; exact hp
theorem putErr_4 {lo hi : Int} {L : List CellP} {c : CellP} (h : (ownsK lo hi c.key && winOk c.win) = false) : putErr lo hi L c = 4 := by unfold putErr; rw [h]; rfl
theorem putErr_5 {lo hi : Int} {L : List CellP} {c : CellP} (h : (ownsK lo hi c.key && winOk c.win) = true) (hw : ¬ weightL (insC c L) ≤ 67108864) : putErr lo hi L c = 5 := by unfold putErr; rw [h, if_pos rfl, if_neg hw]
theorem putErr_0 {lo hi : Int} {L : List CellP} {c : CellP} (h : (ownsK lo hi c.key && winOk c.win) = true) (hw : weightL (insC c L) ≤ 67108864) : putErr lo hi L c = 0 := by unfold putErr; rw [h, if_pos rfl, if_pos hw]
def NewBox (B : Nat) (cs : Array Value) (t : TypeId) (v : Value) (w : World) : Prop := ∃ b, v = .pointer (some ⟨b, 0, none⟩) ∧ w.heap[b]? = some (.cells cs t (0, 0)) ∧ B ≤ b
/-- looking up, in whatever later world. -/
theorem CellsMap.look' {V : Nat → Prop} {w : World} {M : Nat} {L : List CellP} (h : CellsMap V w M L) (hL : ∀ c ∈ L, IdOk (idC c)) {i : Idn} (hi : IdOk i) :
    ∃ u b, (∀ w', Later w w' → (Instr.lookup 60 (.map (some M)) (keyV i) true).run Tryz.prog w' = .ok (.tuple #[u, .bool b]) w') ∧
      ((b = true ∧ ∃ c ∈ L, idC c = i ∧ CellV V w u c) ∨ (b = false ∧ (∀ c ∈ L, idC c ≠ i) ∧ u = zeroCell)) := by
  obtain ⟨D, hown, hn, hk, hc⟩ := h
  have hrun : ∀ w', Later w w' → ∃ v ps, (Instr.lookup 60 (.map (some M)) (keyV i) true).run Tryz.prog w' = .ok (.tuple #[v, .bool (Maps.has D (litI i))]) w' ∧ rawR v = some (D.atKey (litI i) (.held zeroCell), ps) := fun w' k => by
    have hown' : w'.ownsMap Tryz.prog 65 rawR M L.length D := by
      obtain ⟨es, clock, hb, F, hz, hD⟩ := hown
      exact ⟨es, clock, k.obj hb, F, hz, hD⟩
    exact hown'.look_ok placeKeyed Tryz.underlying60 (zero_cell w') (zd := .held zeroCell) (zp := []) rfl hi.key
  obtain ⟨v, ps, h0, hv⟩ := hrun w (Later.refl w)
  have h1 := rawR_inv hv
  refine ⟨v, Maps.has D (litI i), fun w' k => ?_, ?_⟩
  · obtain ⟨v', ps', h2, hv'⟩ := hrun w' k
    have h3 := rawR_inv hv'
    rw [h1, DataW.held.injEq] at h3
    rw [h3]; exact h2
  · cases hh : Maps.has D (litI i) with
    | true =>
      left
      obtain ⟨c, hcL, e⟩ := hk _ hh
      have e2 := (hL c hcL).inj hi e
      obtain ⟨-, u, h2, h3⟩ := hc c hcL
      rw [← e, h3, DataW.held.injEq] at h1
      exact ⟨rfl, c, hcL, e2, h1 ▸ h2⟩
    | false =>
      right
      refine ⟨rfl, fun c hcL e => ?_, ?_⟩
      · have := (hc c hcL).1
        rw [e, hh] at this; cases this
      · rw [Maps.atKey_of_not_has hh, DataW.held.injEq] at h1
        exact h1.symm
section
variable {V : Nat → Prop} {S M : Nat} {lo hi : Int} {L : List CellP}
set_option maxRecDepth 100000 in
set_option maxHeartbeats 2000000 in
/-- no key of the store's, or no window. -/
theorem put_no (c : CellP) (kv dv : Value) (w : World) (h : StAt V w S M lo hi L) (hk : IsVals w kv c.key) (hg : ∀ x ∈ c.key, ValOk x) (ht : PowTab w) (hno : (ownsK lo hi c.key && winOk c.win) = false) :
    Calls Tryz.prog 6 #[.pointer (some ⟨S, 0, none⟩), kv, .agg #[.int .i64 c.win.1, .int .i64 c.win.2], dv] w (PutErrTo w 4) := by
  obtain ⟨key, ⟨f, t⟩, data⟩ := c
  simp only at hk hg hno ⊢
  have HOWN := hid fun W (hL : Later w W) => owns_any (V := V) key kv W (h.later hL) (hk.later hL) hg (ht.later hL)
  have HNO : Hid (ownsK lo hi key = true → winOk (f, t) = false) := hid fun e => by rw [e, Bool.true_and] at hno; exact hno
  clear h hk hg ht hno
  go_enter Tryz.func6, Tryz.ntmps6
  go_wp2_with fail
  refine (HOWN.out _ (Later.alloc w _)).mono ?_
  rintro e w2 ⟨rfl, hL2⟩
  have HL2 := hid (Later.trans _ _ _ (Later.alloc w _) hL2)
  have hX := hL2.obj (obj_new w (.cells #[.int .i64 f, .int .i64 t] 34 (0, 0)))
  have x0 := cell_obj (i := 0) hX (v := .int .i64 f) rfl
  have x1 := cell_obj (i := 1) hX (v := .int .i64 t) rfl
  clear hL2 hX
  cases ho : ownsK lo hi key with
  | false =>
    go_wp2_with fail
    go_ret
    exact ⟨rfl, HL2.out⟩
  | true =>
    have hw := HNO.out ho
    clear ho
    by_cases h1 : f < -1048576
    · clear hw
      go_wp2_with fail
      go_ret
      exact ⟨rfl, HL2.out⟩
    by_cases h2 : t ≤ f
    · clear hw
      go_wp2_with fail
      go_ret
      exact ⟨rfl, HL2.out⟩
    have h3 : 1099512676353 < t := by
      unfold winOk at hw
      simp only [Bool.and_eq_false_iff, decide_eq_false_iff_not] at hw
      omega
    clear hw
    go_wp2_with fail
    go_ret
    exact ⟨rfl, HL2.out⟩
end
end Go.Proofs.YtgcnchmnciihnaaGreatDoor
