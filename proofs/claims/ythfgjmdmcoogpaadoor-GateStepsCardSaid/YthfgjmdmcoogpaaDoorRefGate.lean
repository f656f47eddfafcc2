/-
  PROVED HERE: the contracts of the document's New and Open of a gate.
-/
import Derived.Test.YthfgjmdmcoogpaaDoorCopy
import Derived.Test.YthfgjmdmcoogpaaDoorGate
namespace Go.Proofs.YthfgjmdmcoogpaaDoor
open Go.RowKit

theorem rInfoI64 : (Tryd.prog.info? 2).map (fun i => (i.zero, i.size, i.bytes)) = some (some (.int .i64 0), 1, 8) := by kernel_rfl
theorem rInfoInt : (Tryd.prog.info? 3).map (fun i => (i.zero, i.size, i.bytes)) = some (some (.int .i64 0), 1, 8) := by kernel_rfl

/-- the document's gate. -/
structure Rg where
  ts : List Int
  ms : List Int
  told : Int
/-- a block whose first cells are these numbers. -/
def IntsAt (w : World) (b : Nat) (t : TypeId) (l : List Int) : Prop := ∃ r : List Value, w.heap[b]? = some (.cells (l.map (Value.int .i64) ++ r).toArray t (0, 0))
theorem IntsAt.at_ {w : World} {b n : Nat} {t : TypeId} {l : List Int} (h : IntsAt w b t l) (hn : n < l.length) : w.cell? ⟨b, n, none⟩ = some (.int .i64 l[n]) := by
  obtain ⟨r, h⟩ := h
  refine cell_obj h ?_
  simp [List.getElem?_append_left, hn]
theorem IntsAt.free {w : World} {b n : Nat} {t : TypeId} {l : List Int} (h : IntsAt w b t l) : w.frozen? ⟨b, n, none⟩ = false := by
  obtain ⟨r, h⟩ := h
  exact free_obj h
theorem IntsAt.later {w w' : World} {b : Nat} {t : TypeId} {l : List Int} (h : IntsAt w b t l) (k : Later w w') : IntsAt w' b t l := let ⟨r, h⟩ := h; ⟨r, k.obj h⟩
theorem IntsAt.kept {S : Nat → Prop} {w w' : World} {b : Nat} {t : TypeId} {l : List Int} (h : IntsAt w b t l) (hs : S b) (k : Keeps S w w') : IntsAt w' b t l := let ⟨r, h⟩ := h; ⟨r, k.obj hs h⟩
theorem IntsAt.set {w : World} {b n : Nat} {t : TypeId} {l : List Int} (h : IntsAt w b t l) (hn : n < l.length) (x : Int) : IntsAt (w.setCell ⟨b, n, none⟩ (.int .i64 x)) b t (l.set n x) := by
  obtain ⟨r, h⟩ := h
  refine ⟨r, ?_⟩
  have := obj_setCell (i := n) h (.int .i64 x)
  rw [this, List.setIfInBounds_toArray, List.set_append_left _ _ (by simpa using hn), List.map_set]
theorem IntsAt.other {w : World} {b : Nat} {t : TypeId} {l : List Int} (h : IntsAt w b t l) {p : Addr} (hp : b ≠ p.block) (v : Value) : IntsAt (w.setCell p v) b t l := by
  obtain ⟨r, h⟩ := h
  exact ⟨r, by rw [Below.heap_setCell _ _ _ _ hp]; exact h⟩
theorem ints_of_own {w : World} {B : Nat} {e : TypeId} {v : Value} {n : Nat} {l : List Int} (h : w.ownsRow B e 1 v n (l.map (Value.int .i64))) (hn : 1 ≤ n) : ∃ g c, v = .slice (some ⟨g, 0, none⟩) n c ∧ B ≤ g ∧ IntsAt w g e l := by
  rcases h.2 with ⟨rfl, h0⟩ | ⟨g, cap, cur, rfl, hb, hg, -, -, -, ht⟩
  · omega
  · refine ⟨g, cap, rfl, hb, cur.toList.drop (n * 1), ?_⟩
    rw [hg, ← ht, List.take_append_drop]

/-- the document's gate in memory. -/
structure RAt (w : World) (R A M cA cM : Nat) (g : Rg) : Prop where
  obj : w.heap[R]? = some (.cells #[.slice (some ⟨A, 0, none⟩) g.ts.length cA, .slice (some ⟨M, 0, none⟩) g.ms.length cM, .int .i64 g.told] 73 (0, 0))
  times : IntsAt w A 2 g.ts
  marks : IntsAt w M 3 g.ms
theorem RAt.later {w w' : World} {R A M cA cM : Nat} {g : Rg} (h : RAt w R A M cA cM g) (k : Later w w') : RAt w' R A M cA cM g := ⟨k.obj h.obj, h.times.later k, h.marks.later k⟩
theorem RAt.kept {S : Nat → Prop} {w w' : World} {R A M cA cM : Nat} {g : Rg} (h : RAt w R A M cA cM g) (k : Keeps S w w') (h1 : S R) (h2 : S A) (h3 : S M) : RAt w' R A M cA cM g := ⟨k.obj h1 h.obj, h.times.kept h2 k, h.marks.kept h3 k⟩

theorem one_new (w : World) (v : Value) (t : TypeId) : ∀ (j : Nat) (u : Value), [v][j]? = some u → (w.alloc (.cells #[v] t)).cell? ((⟨w.heap.size, 0, none⟩ : Addr).add j) = some u := by
  intro j u hu
  rw [add_none rfl]
  match j, hu with
  | 0, hu => simp at hu; subst hu; simp
theorem one_one (x : Int) : ∀ u ∈ [Value.int .i64 x], u.oneCell' = true := by
  intro u hu
  simp only [List.mem_cons, List.not_mem_nil, or_false] at hu
  subst hu
  rfl
def RNewTo (w : World) (c : Nat) (e : Ending) (w' : World) : Prop :=
  ∃ R A M cA cM, e = .returned (.pointer (some ⟨R, 0, none⟩)) ∧ w.heap.size ≤ R ∧ R < A ∧ R < M ∧ A ≠ M ∧ RAt w' R A M cA cM ⟨List.replicate c (-1), List.replicate c 0, -1⟩ ∧ Later w w'
/-- two slices of one's own, apart. -/
def Apart (u v : Value) : Prop := ∀ g, u.ownBlock = some g → v.ownBlock ≠ some g
theorem Apart.symm {u v : Value} (h : Apart u v) : Apart v u := fun g h1 h2 => h g h2 h1
theorem apart_grow {w w' : World} {B s n s2 n2 : Nat} {e e2 : TypeId} {xs xs2 : List Value} {v v' u : Value} (hA : Appended w B e s v n xs v' w') (hu : w.ownsRow B e2 s2 u n2 xs2) (hp : Apart v u) : Apart v' u ∧ w'.ownsRow B e2 s2 u n2 xs2 := by
  refine ⟨fun g h1 h2 => ?_, hu.kept hA.grown ?_⟩
  · rcases hA.block with h | ⟨k, h, hk⟩
    · exact hp g (h ▸ h1) h2
    · rw [h] at h1
      injection h1 with h1
      have := (hu.lt g h2).2
      omega
  · cases hb : u.ownBlock with
    | none => exact .inl rfl
    | some k => exact .inr fun h => hp k h.symm hb
theorem grown_low {w w' : World} {B s n : Nat} {e : TypeId} {xs ys : List Value} {m : Nat} {v v' : Value} (hA : Appended w B e s v n xs v' w') (hv : w.ownsRow B e s v m ys) {j : Nat} (hj : j < B) (hB : B ≤ w.heap.size) : w'.heap[j]? = w.heap[j]? :=
  hA.grown.block _ (by omega) fun h => by have := (hv.lt j h.symm).1; omega
set_option maxRecDepth 100000 in
set_option maxHeartbeats 2000000 in
theorem ref_gate_new (c : Nat) (w : World) (h1 : 1 ≤ c) (h2 : c ≤ 64) : Calls Tryd.prog 27 #[.int .i64 c] w (RNewTo w c) := by
  obtain ⟨ia, hi, hz0, hz1, hz2⟩ := info_parts rInfoI64
  have AI := hid hi; have AZ0 := hid hz0; have AZ1 := hid hz1; have AZ2 := hid hz2; clear hi hz0 hz1 hz2
  obtain ⟨ib, hi, hz0, hz1, hz2⟩ := info_parts rInfoInt
  have BI := hid hi; have BZ0 := hid hz0; have BZ1 := hid hz1; have BZ2 := hid hz2; clear hi hz0 hz1 hz2
  go_enter Tryd.func27, Tryd.ntmps27
  go_wp2
  go_loopw [4] (fun i wr => ∃ n : Nat, n ≤ c ∧ i = .int .i64 n ∧ Later w wr ∧ ∃ v1 v2, wr.heap[w.heap.size]? = some (.cells #[v1, v2, .int .i64 (-1)] 73 (0, 0)) ∧
      wr.ownsRow (w.heap.size + 1) 2 1 v1 n ((List.replicate n (-1)).map (Value.int .i64)) ∧ wr.ownsRow (w.heap.size + 1) 3 1 v2 n ((List.replicate n 0).map (Value.int .i64)) ∧ Apart v1 v2) (fun i _ => c - (intOf i).toNat)
  case atStart => exact ⟨0, by omega, rfl, Later.alloc _ _, .slice none 0 0, .slice none 0 0, obj_new _ _, ⟨rfl, .inl ⟨rfl, rfl⟩⟩, ⟨rfl, .inl ⟨rfl, rfl⟩⟩, fun g h => by simp [Value.ownBlock] at h⟩
  case round =>
    obtain ⟨n, hn, rfl, hL, v1, v2, ho, hA, hM, hne⟩ := hrel
    have HO := hid ho; have HA := hid hA; have HM := hid hM
    have o0 := cell_obj (i := 0) ho rfl
    have hz : w.heap.size + 1 ≤ wr.heap.size := (Array.getElem?_eq_some_iff.1 ho).1
    clear ho hA hM
    by_cases hlt : n < c
    · have ha1 := own_later HA.out (Later.alloc wr (.cells #[.int .i64 (-1)] 2))
      have HA1 := hid ha1
      clear ha1
      go_wp2_with (at_builtin; refine wpList_append _ rfl _ _ 70 rfl (w.heap.size + 1) 2 ia _ 1 8 Tryd.underlying70 AI.out AZ0.out AZ1.out AZ2.out rfl (by decide) v1 _ _ rfl HA1.out ⟨wr.heap.size, 0, none⟩ 1 1 [.int .i64 (-1)] rfl rfl ?a1 ?a2 ?a3 ?a4 ?a5 ?_)
      case a1 => exact one_new _ _ _
      case a2 => exact one_one _
      case a3 => unfold maxLen; omega
      case a4 => omega
      case a5 => simp; omega
      intro v1' w3 hX
      obtain ⟨hp1, hm1⟩ := apart_grow hX (own_later HM.out (Later.alloc _ _)) hne
      have hlow : ∀ j, j < w.heap.size + 1 → w3.heap[j]? = wr.heap[j]? := fun j hj => (grown_low hX HA1.out hj (by simp only [World.size_alloc]; omega)).trans ((Later.alloc wr _).block j (by omega))
      have ho3 := (hlow w.heap.size (by omega)).trans HO.out
      have hl3 : Later w w3 := Below.grown (hL.alloc' _) hX.grown (by simp only [World.size_alloc]; omega) (fun k hk => by have := (HA1.out.lt k hk).1; omega)
      have hs3 : wr.heap.size + 1 ≤ w3.heap.size := by have := hX.grown.size; simpa using this
      obtain ⟨a1, c1, rfl⟩ := ownsRow_slice hX.own
      have o0 := cell_obj (i := 0) ho3 rfl
      have z0 := free_obj (i := 0) ho3
      have ho4 := obj_setCell (i := 0) ho3 (.slice a1 (n + 1) c1)
      have hx4 := ownsRow_setCell_below hX.own (a := ⟨w.heap.size, 0, none⟩) (by simp only; omega) (.slice a1 (n + 1) c1)
      have hm4 := ownsRow_setCell_below hm1 (a := ⟨w.heap.size, 0, none⟩) (by simp only; omega) (.slice a1 (n + 1) c1)
      have hl4 : Later w (w3.setCell ⟨w.heap.size, 0, none⟩ (.slice a1 (n + 1) c1)) := hl3.new (p := ⟨_, _, none⟩) (Nat.le_refl _) _
      simp only [List.setIfInBounds_toArray, List.set_cons_zero] at ho4
      have HO4 := hid ho4; have HX4 := hid hx4; have HM4 := hid hm4; have HL4 := hid hl4; have HP1 := hid hp1
      clear hlow ho3 hl3 hX hp1 hm1 hl4 hx4 hm4 hne hL
      have ho4' := HO4.out
      have o1 := cell_obj (i := 1) ho4' rfl
      have ha4 := own_later HM4.out (Later.alloc (w3.setCell ⟨w.heap.size, 0, none⟩ (.slice a1 (n + 1) c1)) (.cells #[.int .i64 0] 3))
      have HA4 := hid ha4
      have hs4 : (w3.setCell ⟨w.heap.size, 0, none⟩ (.slice a1 (n + 1) c1)).heap.size = w3.heap.size := by simp
      have ho5 := one_new (w3.setCell ⟨w.heap.size, 0, none⟩ (.slice a1 (n + 1) c1)) (.int .i64 0) 3
      rw [hs4] at ho5
      clear ho4 ho4' ha4
      go_wp2_with (at_builtin; refine wpList_append _ rfl _ _ 71 rfl (w.heap.size + 1) 3 ib _ 1 8 Tryd.underlying71 BI.out BZ0.out BZ1.out BZ2.out rfl (by decide) v2 _ _ rfl HA4.out ⟨w3.heap.size, 0, none⟩ 1 1 [.int .i64 0] rfl rfl ?b1 ?b2 ?b3 ?b4 ?b5 ?_)
      case b1 => exact ho5
      case b2 => exact one_one _
      case b3 => unfold maxLen; omega
      case b4 => omega
      case b5 => simp only [World.size_alloc, hs4]; omega
      intro v2' w5 hY
      obtain ⟨hp5, hx5⟩ := apart_grow hY (own_later HX4.out (Later.alloc _ _)) HP1.out.symm
      have hlow : ∀ j, j < w.heap.size + 1 → w5.heap[j]? = (w3.setCell ⟨w.heap.size, 0, none⟩ (.slice a1 (n + 1) c1)).heap[j]? := fun j hj => (grown_low hY HA4.out hj (by simp only [World.size_alloc, hs4]; omega)).trans ((Later.alloc _ _).block j (by rw [hs4]; omega))
      have ho6 := (hlow w.heap.size (by omega)).trans HO4.out
      have hl6 : Later w w5 := Below.grown (HL4.out.alloc' _) hY.grown (by simp only [World.size_alloc, hs4]; omega) (fun k hk => by have := (HA4.out.lt k hk).1; omega)
      obtain ⟨a2, c2, rfl⟩ := ownsRow_slice hY.own
      clear o0 o1 z0
      have o1 := cell_obj (i := 1) ho6 rfl
      have z0 := free_obj (i := 1) ho6
      have hs6 : w.heap.size < w5.heap.size := (Array.getElem?_eq_some_iff.1 ho6).1
      have ho7 := obj_setCell (i := 1) ho6 (.slice a2 (n + 1) c2)
      have hx7 := ownsRow_setCell_below hx5 (a := ⟨w.heap.size, 1, none⟩) (by simp only; omega) (.slice a2 (n + 1) c2)
      have hm7 := ownsRow_setCell_below hY.own (a := ⟨w.heap.size, 1, none⟩) (by simp only; omega) (.slice a2 (n + 1) c2)
      have hl7 : Later w (w5.setCell ⟨w.heap.size, 1, none⟩ (.slice a2 (n + 1) c2)) := hl6.new (p := ⟨_, _, none⟩) (Nat.le_refl _) _
      simp only [List.setIfInBounds_toArray, List.set_cons_zero, List.set_cons_succ] at ho7
      simp only [List.map_replicate, ← List.replicate_succ'] at hx7 hm7
      have HO7 := hid ho7; have HX7 := hid hx7; have HM7 := hid hm7; have HL7 := hid hl7; have HP7 := hid hp5.symm
      clear hlow ho6 hl6 hY hp5 hx5 hl7 hx7 hm7 ho7
      go_wp2
      go_roundw
      case rel => exact ⟨n + 1, by omega, by go_num, HL7.out, _, _, HO7.out, by simpa only [List.map_replicate] using HX7.out, by simpa only [List.map_replicate] using HM7.out, HP7.out⟩
      case measure => simp [intOf]; omega
    · obtain rfl : n = c := by omega
      go_wp2
      go_ret
      obtain ⟨A, cA, rfl, hbA, hA⟩ := ints_of_own HA.out h1
      obtain ⟨M, cM, rfl, hbM, hM⟩ := ints_of_own HM.out h1
      refine ⟨_, A, M, cA, cM, rfl, Nat.le_refl _, by omega, by omega, fun h => hne A rfl (by rw [h]; rfl), ⟨?_, hA, hM⟩, hL⟩
      simp only [List.length_replicate]
      exact HO.out
end Go.Proofs.YthfgjmdmcoogpaaDoor
