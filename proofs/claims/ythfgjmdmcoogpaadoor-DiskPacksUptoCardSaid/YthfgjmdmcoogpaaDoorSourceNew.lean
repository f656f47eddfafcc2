/-
  PROVED HERE: the contract of source.New.
-/
import Derived.Test.YthfgjmdmcoogpaaDoorClone
import Derived.Test.YthfgjmdmcoogpaaDoorOwn
namespace Go.Proofs.YthfgjmdmcoogpaaDoor
set_option linter.unusedSimpArgs false
set_option linter.unusedVariables false
open Go.RowKit

/-- a partition that is read. -/
structure Src where
  rows : List Row
  bound : Int
  at_ : Nat
  time : Int
  late : Int
def RdrAt (S0 : Nat → Prop) (w : World) (R : Nat) (s : Src) : Prop :=
  ∃ sv, w.heap[R]? = some (.cells #[sv, .int .i64 s.bound, .int .i64 s.at_, .int .i64 s.time, .int .i64 s.late] 123 (0, 0)) ∧ RowsIn (fun b => R < b ∧ S0 b) w sv s.rows
def newErr (rows : List Row) (bound : Int) : Option Int :=
  if rows.length ≤ 100 then (if 0 ≤ bound ∧ bound ≤ 1048576 then (if rows.all validR then none else some 4) else some 4) else some 5
def NewTo (w : World) (rows : List Row) (bound : Int) (e : Ending) (w' : World) : Prop :=
  match newErr rows bound with
  | some c => e = .returned (.tuple #[.pointer none, .iface 33 (.int .i64 c)]) ∧ Later w w'
  | none => ∃ R, e = .returned (.tuple #[.pointer (some ⟨R, 0, none⟩), .nilIface]) ∧ w.heap.size ≤ R ∧ RdrAt (fun b => b < w'.heap.size) w' R ⟨rows, bound, 0, -1, 0⟩ ∧ Later w w'

theorem infoRow : (Tryd.prog.info? 37).map (fun i => (i.zero, i.size, i.bytes)) = some (some (.agg #[.int .i64 0, .slice none 0 0]), 2, 32) := by kernel_rfl

/-- the cells of rows, their lists given. -/
def rowCells : List Row → List Value → List Value
  | r :: rs, v :: vs => .int .i64 r.time :: v :: rowCells rs vs
  | _, _ => []
theorem rowCells_length : ∀ (rs : List Row) (vs : List Value), vs.length = rs.length → (rowCells rs vs).length = rs.length * 2
  | [], vs, h => by cases vs <;> simp_all [rowCells]
  | r :: rs, v :: vs, h => by
    have ih := rowCells_length rs vs (by simpa using h)
    simp only [rowCells, List.length_cons, ih]; omega
  | _ :: _, [], h => by simp at h
theorem rowCells_snoc : ∀ (rs : List Row) (vs : List Value) (r : Row) (v : Value), vs.length = rs.length → rowCells (rs ++ [r]) (vs ++ [v]) = rowCells rs vs ++ [.int .i64 r.time, v]
  | [], vs, r, v, h => by cases vs <;> simp_all [rowCells]
  | r' :: rs, v' :: vs, r, v, h => by
    have ih := rowCells_snoc rs vs r v (by simpa using h)
    simp only [List.cons_append, rowCells, ih]
  | _ :: _, [], r, v, h => by simp at h
theorem rowCells_get : ∀ (rs : List Row) (vs : List Value) (hl : vs.length = rs.length) (i : Nat) (h : i < rs.length), (rowCells rs vs)[i * 2]? = some (.int .i64 rs[i].time) ∧ (rowCells rs vs)[i * 2 + 1]? = some (vs[i]'(by omega))
  | [], _, _, i, h => by cases h
  | r :: rs, v :: vs, hl, 0, _ => by simp [rowCells]
  | r :: rs, v :: vs, hl, i + 1, h => by
    have ih := rowCells_get rs vs (by simpa using hl) i (by simpa using h)
    have e : ∀ j, (rowCells (r :: rs) (v :: vs))[(i + 1) * 2 + j]? = (rowCells rs vs)[i * 2 + j]? := fun j => by
      rw [show (i + 1) * 2 + j = (i * 2 + j) + 1 + 1 by omega]; rfl
    have e0 := e 0
    simp only [Nat.add_zero] at e0
    rw [e0, e 1]
    simpa using ih
  | _ :: _, [], hl, _, _ => by simp at hl

/-- rows of a reader that is being made: a slice of the call's own, its rows' lists in other blocks. -/
def RowsOwn (B : Nat) (w : World) (sv : Value) (rs : List Row) : Prop :=
  ∃ vs : List Value, ∃ hl : vs.length = rs.length, w.ownsRow B 37 2 sv rs.length (rowCells rs vs) ∧ ∀ i (h : i < rs.length), ValsIn (fun b => B ≤ b ∧ some b ≠ sv.ownBlock) w (vs[i]'(by omega)) rs[i].vals

theorem ValsIn.lt {S : Nat → Prop} {w : World} {v : Value} {l : List Val} (h : ValsIn S w v l) : ValsIn (fun b => S b ∧ b < w.heap.size) w v l :=
  h.map fun b o x hb hx => ⟨⟨hb, by have := cell_lt hx.1; exact this⟩, hx⟩
theorem SliceOf.vals_swap {S S' : Nat → Prop} {w w' : World} {v : Value} {l : List Val} (h : ValsIn S w v l) (k : Keeps S w w') (hs : ∀ b, S b → b < w.heap.size → S' b) : ValsIn S' w' v l :=
  h.map fun b o x hb hx => ⟨hs b hb (by have := cell_lt hx.1; exact this), hx.kept hb k⟩

theorem rows_lt {S : Nat → Prop} {w : World} {v : Value} {l : List Row} (h : RowsIn S w v l) : RowsIn (fun b => S b ∧ b < w.heap.size) w v l :=
  h.map fun b o x hb hx => ⟨⟨hb, by have := cell_lt hx.1; exact this⟩, hx.1, let ⟨v, h1, h2⟩ := hx.2; ⟨v, h1, h2.lt⟩⟩
theorem RowsOwn.rows {B : Nat} {w : World} {sv : Value} {rs : List Row} (h : RowsOwn B w sv rs) : RowsIn (fun b => B ≤ b) w sv rs := by
  obtain ⟨vs, hl, ⟨hn, hv⟩, hvs⟩ := h
  rcases hv with ⟨rfl, h0⟩ | ⟨g, cap, cur, rfl, hb, hg, hle, hm, hc, ht⟩
  · have : rs = [] := List.eq_nil_of_length_eq_zero h0
    subst this
    exact ⟨none, 0, rfl, Nat.le_refl _, by unfold maxLen; omega, fun _ => rfl, fun i hi => by cases hi⟩
  · refine ⟨_, cap, rfl, hle, hm, fun h => (by cases h), fun i hi => ⟨g, 0, rfl, hb, ?_⟩⟩
    have cell : ∀ j u, (rowCells rs vs)[j]? = some u → w.cell? ⟨g, j, none⟩ = some u := fun j u hu => by
      refine cell_obj hg ?_
      rw [← ht, List.getElem?_take] at hu
      split at hu
      · simpa using hu
      · cases hu
    obtain ⟨h1, h2⟩ := rowCells_get rs vs hl i hi
    simp only [Nat.zero_add]
    exact ⟨cell _ _ h1, _, cell _ _ h2, (hvs i hi).vals_mono fun b hb => hb.1⟩
theorem RowsOwn.kept {B : Nat} {S : Nat → Prop} {w w' : World} {sv : Value} {rs : List Row} (h : RowsOwn B w sv rs) (k : Keeps S w w') (hs : ∀ b, B ≤ b → S b) : RowsOwn B w' sv rs := by
  obtain ⟨vs, hl, ho, hvs⟩ := h
  refine ⟨vs, hl, ⟨ho.1, ho.2.imp id fun ⟨g, c, cur, h1, h2, h3, h4⟩ => ⟨g, c, cur, h1, h2, k.obj (hs _ h2) h3, h4⟩⟩, fun i hi => (hvs i hi).vals_kept k fun b hb => hs b hb.1⟩
theorem RowsOwn.append {B : Nat} {w w' : World} {sv sv' v v0 : Value} {rs : List Row} {r : Row} {vs : List Value} (hl : vs.length = rs.length) (ho : w.ownsRow B 37 2 sv rs.length (rowCells rs vs))
    (hvs : ∀ i (h : i < rs.length), ValsIn (fun b => B ≤ b ∧ some b ≠ sv.ownBlock) w (vs[i]'(by omega)) rs[i].vals) (hv : OwnVals B w v r.vals v0) (hne : v.ownBlock = none ∨ v.ownBlock ≠ sv.ownBlock)
    (hA : Appended w B 37 2 sv (rs.length + 1) (rowCells rs vs ++ [.int .i64 r.time, v]) sv' w') : RowsOwn B w' sv' (rs ++ [r]) := by
  obtain ⟨h1, h2, h3⟩ := hA
  have key : ∀ b, (B ≤ b ∧ some b ≠ sv.ownBlock) → b < w.heap.size → B ≤ b ∧ some b ≠ sv'.ownBlock := fun b hb hlt => ⟨hb.1, by
    rcases h3 with h3 | ⟨g, h3, hg⟩
    · rw [h3]; exact hb.2
    · rw [h3]; intro e; injection e with e; omega⟩
  have hk : Keeps (fun b => B ≤ b ∧ some b ≠ sv.ownBlock) w w' := (Keeps.of_grown h2).mono fun _ _ h => h.2
  refine ⟨vs ++ [v], by simp [hl], by rw [rowCells_snoc _ _ _ _ hl]; simpa using h1, fun i hi => ?_⟩
  by_cases hlt : i < rs.length
  · simp only [List.getElem_append_left hlt, List.getElem_append_left (by omega : i < vs.length)]
    exact (hvs i hlt).vals_swap hk key
  · obtain rfl : i = rs.length := by simp at hi; omega
    have e1 : (vs ++ [v])[rs.length]'(by simp [hl]) = v := by simp [← hl]
    have e2 : (rs ++ [r])[rs.length]'(by simp) = r := by simp
    simp only [e1, e2]
    obtain ⟨⟨hn, hvv⟩, _⟩ := hv
    have hvi : ValsIn (fun b => B ≤ b ∧ some b ≠ sv.ownBlock) w v r.vals := by
      have ho' := owned_vals ⟨hn, hvv⟩
      rcases hvv with ⟨rfl, h0⟩ | ⟨g, cap, cur, rfl, _⟩
      · have : r.vals = [] := List.eq_nil_of_length_eq_zero h0
        rw [this]
        exact ⟨none, 0, rfl, Nat.le_refl _, by unfold maxLen; omega, fun _ => rfl, fun i hi => by cases hi⟩
      · obtain ⟨a, c, q1, q2, q3, q4, q5⟩ := ho'
        refine ⟨a, c, q1, q2, q3, q4, fun j hj => ?_⟩
        obtain ⟨b, o, e, hb, hx⟩ := q5 j hj
        refine ⟨b, o, e, ⟨hb, ?_⟩, hx⟩
        rw [e] at q1
        injection q1 with q1
        injection q1 with q1
        injection q1 with q1
        subst q1
        rcases hne with hne | hne
        · simp [Value.ownBlock] at hne
        · exact hne
    exact hvi.vals_swap hk key

/-- a copied row; and a slice of it alone. -/
def RowMade (B : Nat) (x : Row) (v0 u : Value) (W : World) : Prop := ∃ a c, u = .agg #[.int .i64 x.time, .slice a x.vals.length c] ∧ OwnVals B W (.slice a x.vals.length c) x.vals v0
def OneMade (B : Nat) (x : Row) (v0 u : Value) (W : World) : Prop := ∃ b a c, u = .slice (some ⟨b, 0, none⟩) 1 1 ∧ W.heap[b]? = some (.cells #[.int .i64 x.time, .slice a x.vals.length c] 37 (0, 0)) ∧ OwnVals B W (.slice a x.vals.length c) x.vals v0 ∧ B ≤ b
theorem RowMade.later {B : Nat} {x : Row} {v0 u : Value} {w w' : World} (h : RowMade B x v0 u w) (k : Later w w') : RowMade B x v0 u w' := let ⟨a, c, h1, h2⟩ := h; ⟨a, c, h1, h2.later k⟩
theorem OneMade.later {B : Nat} {x : Row} {v0 u : Value} {w w' : World} (h : OneMade B x v0 u w) (k : Later w w') : OneMade B x v0 u w' := let ⟨b, a, c, h1, h2, h3, h4⟩ := h; ⟨b, a, c, h1, k.obj h2, h3.later k, h4⟩

set_option maxRecDepth 100000 in
set_option maxHeartbeats 2000000 in
theorem new_any (rows : List Row) (bound : Int) (v : Value) (w : World) (hv : IsRows w v rows) :
    Calls Tryd.prog 13 #[v, .int .i64 bound] w (NewTo w rows bound) := by
  obtain ⟨p, c, rfl, hac, hcm, -, hea⟩ := hv
  have hlen : rows.length ≤ 9223372036854775807 := by unfold maxLen at hcm; omega
  have HE := hid hea; clear hea hac hcm
  by_cases h1 : rows.length ≤ 100
  · clear hlen
    by_cases h2 : 0 ≤ bound
    · by_cases h3 : bound ≤ 1048576
      · have hN : Hid (newErr rows bound = if rows.all validR then none else some 4) := hid (by simp [newErr, h1, h2, h3])
        obtain ⟨i0, hi, hz0, hz1, hz2⟩ := info_parts infoRow
        have HI := hid hi; have HZ0 := hid hz0; have HZ1 := hid hz1; have HZ2 := hid hz2; clear hi hz0 hz1 hz2
        go_enter Tryd.func13, Tryd.ntmps13
        go_wp2
        go_loopw [25] (fun i wr => ∃ n : Nat, n ≤ rows.length ∧ i = .int .i64 n ∧ Later w wr ∧ Hid (∀ j (h : j < rows.length), j < n → validR rows[j] = true) ∧
            ∃ sv, wr.heap[w.heap.size]? = some (.cells #[sv, .int .i64 bound, .int .i64 0, .int .i64 (-1), .int .i64 0] 123 (0, 0)) ∧ RowsOwn (w.heap.size + 1) wr sv (rows.take n)) (fun i _ => rows.length - (intOf i).toNat)
        case atStart => exact ⟨0, by omega, rfl, Later.alloc _ _, hid fun j h h' => by omega, _, obj_new _ _, [], rfl, ⟨rfl, .inl ⟨rfl, rfl⟩⟩, fun i hi => by simp at hi⟩
        case round =>
          obtain ⟨n, hn, rfl, hL, hq, sv, hR, hO⟩ := hrel
          have HR := hid hR; have HO := hid hO; clear hR hO
          by_cases hlt : n < rows.length
          · obtain ⟨b1, o1, rfl, -, q1, v, q2, hv⟩ := HE.out n hlt
            have p1 := hL.cell q1
            have p2 := hL.cell q2
            have HV := hid (hv.later hL); clear q1 q2 hv
            obtain ⟨a2, c2, rfl, -⟩ := HV.out
            have hX : ∃ x, x = rows[n] := ⟨_, rfl⟩
            obtain ⟨x, hX⟩ := hX
            have HX := hid hX
            have HVX : Hid (IsVals wr (.slice a2 rows[n].vals.length c2) rows[n].vals) := HV
            rw [← hX] at p1 p2 HVX
            clear hX HV
            cases hc : validR x with
            | true =>
              have HC := hid hc
              have hl8 : x.vals.length * 32 ≤ 140737488355328 := by
                have := HC.out; simp only [validR, Bool.and_eq_true, decide_eq_true_eq] at this; omega
              go_wp2_with (go_at_call 60; refine (valid_row x.time x.vals _ _ (HVX.out.later (Later.alloc _ _))).mono ?_; rintro e w1 ⟨rfl, hL1⟩)
              have hLw := hL1
              repeat (first | replace hLw := Later.of_drew hLw | replace hLw := Later.of_drewN hLw | replace hLw := Later.of_alloc hLw)
              have r0 : w1.cell? ⟨w.heap.size, 0, none⟩ = some sv := cell_obj (hLw.obj HR.out) rfl
              have x0 : w1.cell? ⟨wr.heap.size, 0, none⟩ = some (.int .i64 x.time) := hL1.cell (by simp)
              have x1 : w1.cell? ⟨wr.heap.size, 1, none⟩ = some (.slice a2 x.vals.length c2) := hL1.cell (by simp)
              have HV1 := hid (HVX.out.later hLw)
              have HLw := hid hLw
              clear hL1 hLw
              refine wp_region_plan (by kernel_rfl) (by kernel_rfl) [0] [8, 9, 10, 11] (by kernel_rfl) (fun _ _ d _ _ h => by cases d <;> exact h) (Later) (Later.refl) (Later.trans) (kinds [(6, RowMade w1.heap.size x (.slice a2 x.vals.length c2)), (7, OneMade w1.heap.size x (.slice a2 x.vals.length c2))]) (kinds_still (by simp only [List.mem_cons, List.not_mem_nil, or_false, forall_eq_or_imp, forall_eq]; exact ⟨fun _ _ _ hR h => h.later hR, fun _ _ _ hR h => h.later hR⟩)) ?_
              simp only [body, tail, numbered, Nat.reduceAdd, List.filter_cons, List.filter_nil, List.contains_cons, List.contains_nil, Nat.reduceBEq, Bool.or_false, Bool.or_true, Bool.false_or, Bool.true_or, Bool.not_true, Bool.not_false, Bool.and_true, Bool.and_false, Bool.true_and, Bool.false_and, if_true, if_false, reduceIte, Bool.false_eq_true, List.map_cons, List.map_nil]
              refine Pures.cons rfl ?_
              apply Exists.intro
              refine ⟨fun w => ?_, ?_⟩
              · go_simp
                first | done | rfl
              simp only [Act.put, List.setIfInBounds_toArray, List.set]
              simp only [Pures]
              iterate 5
                first
                | (refine Lex.skip rfl ?_; simp only [Act.put, List.setIfInBounds_toArray, List.set])
                | (refine Lex.one' rfl rfl ?_
                   apply Exists.intro
                   refine ⟨fun w hR hF => ?_, ?_⟩
                   · have hP := hR
                     repeat (first | replace hP := Later.of_drew hP | replace hP := Later.of_drewN hP | replace hP := Later.of_alloc hP)
                     have hcs := hR.cells
                     have zr0 := hP.cell r0
                     have zx0 := hP.cell x0
                     have zx1 := hP.cell x1
                     clear hR hF hP
                     go_simp
                     first | done | rfl
                   simp only [Act.put, List.setIfInBounds_toArray, List.set])
              refine Lex.any rfl rfl (fun w2 hR hF => ?_) ?_
              · clear hF
                have hP := hR
                repeat (first | replace hP := Later.of_drew hP | replace hP := Later.of_drewN hP | replace hP := Later.of_alloc hP)
                have hsz : w1.heap.size ≤ w2.heap.size := hP.size
                have HV2 := hid (HV1.out.later hP)
                clear hR hP r0 x0 x1
                unfold Runs
                go_simp
                refine yield_enter ?_
                refine (clone_row x.time x.vals _ _ HV2.out hl8).mono ?_
                rintro e w' ⟨v', rfl, ho, hL⟩
                obtain ⟨a, c, rfl⟩ := ho.slice
                exact ⟨_, rfl, hL, _, _, rfl, ho.base hsz⟩
              rintro v6 ⟨w2, hR2, hF2⟩
              obtain ⟨a4, c4, rfl, -⟩ := hF2 _ List.mem_cons_self _ rfl
              clear hF2 hR2 w2
              simp only [Act.put, List.setIfInBounds_toArray, List.set]
              refine Lex.any rfl rfl (fun w2 hR hF => ?_) ?_
              · obtain ⟨a5, c5, h5, ho⟩ := hF _ List.mem_cons_self (by kernel_rfl) _ rfl
                simp only [Value.agg.injEq, Array.mk.injEq, List.cons.injEq, Value.slice.injEq, true_and, and_true] at h5
                obtain ⟨rfl, rfl⟩ := h5
                have hP := hR
                repeat (first | replace hP := Later.of_drew hP | replace hP := Later.of_drewN hP | replace hP := Later.of_alloc hP)
                have hsz : w1.heap.size ≤ w2.heap.size := hP.size
                have HO2 := hid ho
                clear hR hP hF r0 x0 x1 ho
                unfold Runs
                go_simp
                exact yield_value (Later.alloc _ _) ⟨w2.heap.size, a4, c4, rfl, obj_new _ _, HO2.out.later (Later.alloc _ _), hsz⟩
              rintro v7 ⟨w2, hR2, hF2⟩
              obtain ⟨b7, a7, c7, rfl, -⟩ := hF2 _ List.mem_cons_self _ rfl
              clear hF2 hR2 w2
              simp only [Act.put, List.setIfInBounds_toArray, List.set]
              intro w2 hR2 hF2
              obtain ⟨b8, a8, c8, e8, h8, o8, s8⟩ := hF2 _ List.mem_cons_self _ rfl
              simp only [Value.slice.injEq, Option.some.injEq, Addr.mk.injEq] at e8
              obtain ⟨⟨rfl, -, -⟩, -, -⟩ := e8
              clear hF2
              repeat (first | replace hR2 := Later.of_drew hR2 | replace hR2 := Later.of_drewN hR2 | replace hR2 := Later.of_alloc hR2)
              have hLn := Later.trans _ _ _ HLw.out hR2
              have HOn := hid (HO.out.kept (hLn.keeps All) (fun _ _ => trivial))
              have hRn := hid (hLn.obj HR.out)
              obtain ⟨vs, hl, ho, hvs⟩ := HOn.out
              have hlr : (rows.take n).length = n := by rw [List.length_take]; omega
              have hwr : w.heap.size + 1 ≤ wr.heap.size := (Array.getElem?_eq_some_iff.1 HR.out).1
              have hw1 : wr.heap.size ≤ w1.heap.size := HLw.out.size
              have hbz : w.heap.size + 1 ≤ w2.heap.size := by have := hLn.size; omega
              have hsvb : ∀ k, sv.ownBlock = some k → k < w1.heap.size := fun k hk => by
                obtain ⟨vs0, hl0, ho0, _⟩ := HO.out
                have := (ho0.lt k hk).2; omega
              have hsvR : ∀ k, sv.ownBlock = some k → w.heap.size < k := fun k hk => (ho.lt k hk).1
              have hne : (Value.slice a8 x.vals.length c8).ownBlock = none ∨ (Value.slice a8 x.vals.length c8).ownBlock ≠ sv.ownBlock := by
                rcases o8.1.2 with ⟨h0, _⟩ | ⟨g, cap, cur, h0, hg, _⟩
                · rw [h0]; exact .inl rfl
                · rw [h0]
                  refine .inr fun h => ?_
                  have := hsvb g h.symm; omega
              have o9 := o8.base (show w.heap.size + 1 ≤ w1.heap.size by omega)
              have HO8 := hid o9
              have hc0 := cell_obj (i := 0) h8 rfl
              have hc1 := cell_obj (i := 1) h8 rfl
              change wpList _ _ _ _ _ _
              refine wpList_append _ rfl _ _ 22 rfl (w.heap.size + 1) 37 i0 _ 2 32 Tryd.underlying22 HI.out HZ0.out HZ1.out HZ2.out rfl (by decide) sv _ _ rfl ho ⟨b7, 0, none⟩ 1 1 [.int .i64 x.time, .slice a8 x.vals.length c8] rfl rfl ?_ ?_ ?_ ?_ ?_ ?_
              · intro j u hu
                rw [add_none rfl]
                match j, hu with
                | 0, hu => simp at hu; subst hu; simpa using hc0
                | 1, hu => simp at hu; subst hu; simpa using hc1
              · intro u hu
                simp only [List.mem_cons, List.not_mem_nil, or_false] at hu
                rcases hu with rfl | rfl <;> rfl
              · rw [hlr]; unfold maxLen; omega
              · rw [hlr]; omega
              · omega
              intro v' w3 hA
              obtain ⟨a', c', rfl⟩ := ownsRow_slice hA.own
              have HA := hid hA
              have hR3 : w3.heap[w.heap.size]? = some (.cells #[sv, .int .i64 bound, .int .i64 0, .int .i64 (-1), .int .i64 0] 123 (0, 0)) := by
                rw [hA.grown.block _ (by omega) (fun h => by have := hsvR _ h.symm; omega)]; exact hRn.out
              have HR3 := hid hR3
              have e0 := cell_obj (i := 0) hR3 rfl
              have z0 := free_obj (i := 0) hR3
              have hs2 : w2.heap.size ≤ w3.heap.size := hA.grown.size
              have HLn := hid hLn
              have HVS := hid hvs
              have HO' := hid ho; have HL' := hid hl
              clear hA hR3 r0 x0 x1 hR2 hLn ho hvs h8 o8 s8 o9 hc0 hc1
              go_wp2
              go_roundw
              case rel =>
                have hrow : RowsOwn (w.heap.size + 1) w3 (.slice a' ((rows.take n).length + 1) c') (rows.take n ++ [x]) :=
                  RowsOwn.append (r := x) HL'.out HO'.out HVS.out HO8.out hne HA.out
                have hset : Keeps (fun b => w.heap.size < b) w3 (w3.setCell ⟨w.heap.size, 0, none⟩ (.slice a' ((rows.take n).length + 1) c')) := (Keeps.refl _ _).setCell (.inl (by simp)) _
                have htk : rows.take n ++ [x] = rows.take (n + 1) := by rw [HX.out, List.take_succ_eq_append_getElem hlt]
                refine ⟨n + 1, by omega, by go_num, ?_, hid fun j h h' => ?_, _, obj_setCell HR3.out _, ?_⟩
                · have hb : Below w.heap.size w w2 := Below.trans hL (Below.mono HLn.out (by omega))
                  exact (hb.grown HA.out.grown (by omega) (fun k hk => by have := hsvR k hk; omega)).setCell (by simp) _
                · by_cases hj : j = n
                  · subst hj; rw [← HX.out]; exact HC.out
                  · exact hq.out j h (by omega)
                · rw [← htk]
                  have hk := hrow.kept hset fun b hb => by omega
                  rw [hlr] at hk
                  exact hk
              case measure => simp [intOf]; omega
            | false =>
              have HC := hid hc
              go_wp2_with (go_at_call 60; refine (valid_row x.time x.vals _ _ (HVX.out.later (Later.alloc _ _))).mono ?_; rintro e w1 ⟨rfl, hL1⟩)
              repeat (first | replace hL1 := Later.of_drew hL1 | replace hL1 := Later.of_drewN hL1 | replace hL1 := Later.of_alloc hL1)
              go_ret2
              have : rows.all validR = false := by
                rw [Bool.eq_false_iff]; intro ha
                have h := List.all_eq_true.1 ha rows[n] (List.getElem_mem hlt)
                rw [← HX.out, HC.out] at h; cases h
              have hN' := hN.out
              rw [this] at hN'
              unfold NewTo
              rw [hN']
              exact ⟨rfl, Later.trans _ _ _ hL hL1⟩
          · obtain rfl : n = rows.length := by omega
            go_wp2
            go_ret2
            have : rows.all validR = true := List.all_eq_true.2 fun x hx => by obtain ⟨j, hj, rfl⟩ := List.getElem_of_mem hx; exact hq.out j hj hj
            have hN' := hN.out
            rw [this] at hN'
            unfold NewTo
            rw [hN']
            exact ⟨_, rfl, Nat.le_refl _, ⟨sv, HR.out, by have h9 := HO.out.rows; rw [List.take_length] at h9; exact rows_lt h9⟩, hL⟩
      · have hN : Hid (newErr rows bound = some 4) := hid (by simp [newErr, h1, h3])
        go_enter Tryd.func13, Tryd.ntmps13
        go_wp2
        go_ret2
        unfold NewTo
        rw [hN.out]
        exact ⟨rfl, Later.refl _⟩
    · have hN : Hid (newErr rows bound = some 4) := hid (by simp [newErr, h1, h2])
      go_enter Tryd.func13, Tryd.ntmps13
      go_wp2
      go_ret2
      unfold NewTo
      rw [hN.out]
      exact ⟨rfl, Later.refl _⟩
  · have hN : Hid (newErr rows bound = some 5) := hid (by simp [newErr, h1])
    have h1' : decide ((100 : Int) < rows.length) = true := by simp; omega
    clear hlen
    go_enter Tryd.func13, Tryd.ntmps13
    go_wp2
    go_ret2
    unfold NewTo
    rw [hN.out]
    exact ⟨rfl, Later.refl _⟩
end Go.Proofs.YthfgjmdmcoogpaaDoor
