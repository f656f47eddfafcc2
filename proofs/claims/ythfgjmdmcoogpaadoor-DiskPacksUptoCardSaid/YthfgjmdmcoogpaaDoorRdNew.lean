/-
  PROVED HERE: the contracts of the document's New of a partition, and of the law's copied.
-/
import Derived.Test.YthfgjmdmcoogpaaDoorRefRdTake
import Derived.Test.YthfgjmdmcoogpaaDoorRefValid
namespace Go.Proofs.YthfgjmdmcoogpaaDoor
set_option linter.unusedSimpArgs false
set_option linter.unusedVariables false
open Go.RowKit

def RdNewTo (w : World) (v : Value) (rows : List Row) (bound : Int) (e : Ending) (w' : World) : Prop :=
  match newErr rows bound with
  | some c => e = .returned (.tuple #[.pointer none, .int .i64 c]) ∧ Later w w'
  | none => ∃ X, e = .returned (.tuple #[.pointer (some ⟨X, 0, none⟩), .int .i64 0]) ∧ w.heap.size ≤ X ∧ w'.heap[X]? = some (.cells #[v, .int .i64 bound, .int .i64 0] 45 (0, 0)) ∧ Later w w'
theorem rdnew_some {w w' : World} {v : Value} {rows : List Row} {bound c : Int} {e : Ending} (h : newErr rows bound = some c) (he : e = .returned (.tuple #[.pointer none, .int .i64 c])) (hl : Later w w') : RdNewTo w v rows bound e w' := by
  unfold RdNewTo
  rw [h]
  exact ⟨he, hl⟩

set_option maxRecDepth 100000 in
set_option maxHeartbeats 2000000 in
theorem rd_new (rows : List Row) (bound : Int) (v : Value) (w : World) (hv : IsRows w v rows) :
    Calls Tryd.prog 14 #[v, .int .i64 bound] w (RdNewTo w v rows bound) := by
  obtain ⟨p, c, rfl, hac, hcm, -, hea⟩ := hv
  have hlen : rows.length ≤ 9223372036854775807 := by unfold maxLen at hcm; omega
  have HE := hid hea
  clear hea hac hcm
  by_cases h1 : rows.length ≤ 100
  · clear hlen
    by_cases h2 : bound < 0
    · have HN : Hid (newErr rows bound = some 4) := hid (by unfold newErr; rw [if_pos h1, if_neg (by omega)])
      go_enter Tryd.func14, Tryd.ntmps14
      go_wp2
      go_ret2
      exact rdnew_some HN.out rfl (Later.refl _)
    by_cases h3 : 1048576 < bound
    · have HN : Hid (newErr rows bound = some 4) := hid (by unfold newErr; rw [if_pos h1, if_neg (by omega)])
      go_enter Tryd.func14, Tryd.ntmps14
      go_wp2
      go_ret2
      exact rdnew_some HN.out rfl (Later.refl _)
    have HN : Hid (newErr rows bound = if rows.all validR then none else some 4) := hid (by unfold newErr; rw [if_pos h1, if_pos (by omega)])
    go_enter Tryd.func14, Tryd.ntmps14
    go_wp2
    go_loopw [6] (fun i wr => ∃ n : Nat, n ≤ rows.length ∧ i = .int .i64 n ∧ Later w wr ∧ Hid (∀ j (h : j < rows.length), j < n → validR rows[j] = true)) (fun i _ => rows.length - (intOf i).toNat)
    case atStart => exact ⟨0, by omega, rfl, Later.refl _, hid fun j h h' => by omega⟩
    case round =>
      obtain ⟨n, hn, rfl, hL, hq⟩ := hrel
      have HL := hid hL
      clear hL
      by_cases hlt : n < rows.length
      · obtain ⟨b1, o1, rfl, -, q1, u1, q2, hu1⟩ := HE.out n hlt
        have HU := hid (hu1.later HL.out)
        replace q1 := HL.out.cell q1
        replace q2 := HL.out.cell q2
        have HB : Hid (validR rows[n] = false → rows.all validR = false) := hid fun h => by
          rw [Bool.eq_false_iff]; intro ha
          have h' := List.all_eq_true.1 ha rows[n] (List.getElem_mem hlt)
          rw [h] at h'; cases h'
        have HX : Hid (∃ x, x = rows[n]) := hid ⟨_, rfl⟩
        obtain ⟨x, hX⟩ := HX.out
        rw [← hX] at q1 HU HB
        have HX := hid hX
        have hnn : (0 : Int) ≤ n := by omega
        clear hX hu1
        go_wp2_with fail
        refine (rvalid_row x.time x.vals _ _ HU.out).mono ?_
        rintro e w1 ⟨rfl, hL1⟩
        have HL1 := hid (Later.trans _ _ _ HL.out hL1)
        clear hL1 q1 q2 HU
        rw [show (⟨x.time, x.vals⟩ : Row) = x from rfl]
        cases hc : validR x with
        | true =>
          have HC := hid hc
          clear hc
          go_wp2
          go_roundw
          case rel =>
            refine ⟨n + 1, by omega, by go_num, HL1.out, hid fun j h h' => ?_⟩
            by_cases hj : j = n
            · subst hj; rw [← HX.out]; exact HC.out
            · exact hq.out j h (by omega)
          case measure => simp [intOf]; omega
        | false =>
          have HC : Hid (newErr rows bound = some 4) := hid (HN.out.trans (by rw [HB.out hc]; rfl))
          clear hc
          go_wp2
          go_ret2
          exact rdnew_some HC.out rfl HL1.out
      · obtain rfl : n = rows.length := by omega
        have HC : Hid (newErr rows bound = none) := hid (HN.out.trans (by
          have : rows.all validR = true := List.all_eq_true.2 fun x hx => by
            obtain ⟨i, hi, rfl⟩ := List.getElem_of_mem hx
            exact hq.out i hi hi
          rw [this]; rfl))
        go_wp2
        go_ret2
        unfold RdNewTo
        rw [HC.out]
        exact ⟨_, rfl, HL.out.size, obj_new _ _, HL.out.alloc' _⟩
  · have HN : Hid (newErr rows bound = some 5) := hid (by unfold newErr; rw [if_neg h1])
    have h1' : 100 < rows.length := by omega
    go_enter Tryd.func14, Tryd.ntmps14
    go_wp2
    go_ret2
    exact rdnew_some HN.out rfl (Later.refl _)

theorem infoRw : ElemInfo Tryd.prog 37 2 32 := ElemInfo.of infoRow rfl (by decide)
/-- rows in a slice of one's own that may be written over. -/
def RowsOwnF (B : Nat) (w : World) (sv : Value) (rs : List Row) : Prop :=
  ∃ vs : List Value, ∃ hl : vs.length = rs.length, w.ownsRow B 37 2 sv rs.length (rowCells rs vs) ∧ ∀ i (h : i < rs.length), ValsOwn (fun b => B ≤ b ∧ some b ≠ sv.ownBlock) w (vs[i]'(by omega)) rs[i].vals
theorem RowsOwnF.own {B : Nat} {w : World} {sv : Value} {rs : List Row} (h : RowsOwnF B w sv rs) : RowsOwn B w sv rs := let ⟨vs, hl, ho, hv⟩ := h; ⟨vs, hl, ho, fun i hi => (hv i hi).vals⟩
theorem rows_add {B : Nat} {w w' : World} {sv sv' v : Value} {rs : List Row} {r : Row} {vs : List Value} (hl : vs.length = rs.length)
    (hvs : ∀ i (h : i < rs.length), ValsOwn (fun b => B ≤ b ∧ some b ≠ sv.ownBlock) w (vs[i]'(by omega)) rs[i].vals) (hv : ValsOwn (fun b => B ≤ b ∧ some b ≠ sv.ownBlock) w v r.vals)
    (hA : Appended w B 37 2 sv (rs.length + 1) (rowCells rs vs ++ [.int .i64 r.time, v]) sv' w') : RowsOwnF B w' sv' (rs ++ [r]) := by
  obtain ⟨h1, h2, h3⟩ := hA
  have key : ∀ b, (B ≤ b ∧ some b ≠ sv.ownBlock) → b < w.heap.size → B ≤ b ∧ some b ≠ sv'.ownBlock := fun b hb hlt => ⟨hb.1, by
    rcases h3 with h3 | ⟨g, h3, hg⟩
    · rw [h3]; exact hb.2
    · rw [h3]; intro e; injection e with e; omega⟩
  have hk : Keeps (fun b => B ≤ b ∧ some b ≠ sv.ownBlock) w w' := (Keeps.of_grown h2).mono fun _ _ h => h.2
  refine ⟨vs ++ [v], by simp [hl], by rw [rowCells_snoc _ _ _ _ hl]; simpa using h1, fun i hi => ?_⟩
  by_cases hlt : i < rs.length
  · simp only [List.getElem_append_left hlt, List.getElem_append_left (by omega : i < vs.length)]
    exact (hvs i hlt).o_swap hk key
  · obtain rfl : i = rs.length := by simp at hi; omega
    have e1 : (vs ++ [v])[rs.length]'(by simp [hl]) = v := by simp [← hl]
    have e2 : (rs ++ [r])[rs.length]'(by simp) = r := by simp
    simp only [e1, e2]
    exact hv.o_swap hk key
theorem oneCell_row {t : Int} {v : Value} (h : v.oneCell' = true) : ∀ u ∈ [Value.int .i64 t, v], u.oneCell' = true := by
  intro u hu
  simp only [List.mem_cons, List.not_mem_nil, or_false] at hu
  rcases hu with rfl | rfl
  · rfl
  · exact h
/-- a slice of values of one's own, away from another one's block. -/
theorem vals_away {B B' : Nat} {w : World} {a : Option Addr} {n c : Nat} {l : List Val} {ob : Option Nat} (h : w.ownsRow B' 40 3 (.slice a n c) n (valCells l)) (hn : n = l.length) (hB : B ≤ B') (hob : ∀ k, ob = some k → k < B') : ValsOwn (fun b => B ≤ b ∧ some b ≠ ob) w (.slice a n c) l := by
  subst hn
  exact (owned_valsO h).o_mono fun b hb => ⟨by omega, fun e => by have := hob b e.symm; omega⟩

def CopiedRowsTo (w : World) (rows : List Row) (e : Ending) (w' : World) : Prop := ∃ sv, e = .returned sv ∧ RowsOwnF w.heap.size w' sv rows ∧ Later w w'
set_option maxRecDepth 100000 in
set_option maxHeartbeats 2000000 in
theorem copied_rows (rows : List Row) (v : Value) (w : World) (hv : IsRows w v rows) (hr : rows.length * 32 ≤ 140737488351232) (hg : ∀ x ∈ rows, x.vals.length * 32 ≤ 140737488355328) :
    Calls Tryd.prog 12 #[v] w (CopiedRowsTo w rows) := by
  obtain ⟨p, c, rfl, hac, hcm, -, hea⟩ := hv
  have HE := hid hea
  have HG := hid hg
  clear hea hac hcm hg
  have hkl : IntKind.i64.wrap ((rows.length : Int) + 70) = ((rows.length + 70 : Nat) : Int) := by
    rw [IntWalk.i64_in _ (by omega)]; omega
  go_enter Tryd.func12, Tryd.ntmps12
  go_wp2_with (at_make; go_loud (refine wpList_make0 rfl _ _ 22 rfl w.heap.size 37 2 32 Tryd.underlying22 infoRw rfl rfl (n := rows.length + 70) (by omega) (by omega) (by unfold maxLen; omega) (Nat.le_refl _) ?_))
  intro w1 ho1 hg1
  have HL1 := hid (grown_none hg1)
  have HO1 : Hid (RowsOwnF w.heap.size w1 (.slice (some ⟨w.heap.size, 0, none⟩) 0 (rows.length + 70)) []) := hid ⟨[], rfl, ho1, fun i hi => by cases hi⟩
  clear ho1 hg1
  go_wp2_with fail
  go_loopw [3, 4] (fun sv iv wr => ∃ (n : Nat) (a0 : Option Addr) (c0 : Nat), n ≤ rows.length ∧ iv = .int .i64 n ∧ sv = .slice a0 n c0 ∧ Later w wr ∧ RowsOwnF w.heap.size wr (.slice a0 n c0) (rows.take n)) (fun _ iv _ => rows.length - (intOf iv).toNat)
  case atStart => exact ⟨0, _, _, by omega, rfl, rfl, HL1.out, HO1.out⟩
  case round =>
    obtain ⟨n, a0, c0, hn, rfl, rfl, hL, ho⟩ := hrel
    have HL := hid hL
    have HO := hid ho
    clear hL ho
    by_cases hlt : n < rows.length
    · obtain ⟨b1, o1, rfl, -, q1, u1, q2, hu1⟩ := HE.out n hlt
      have HX : Hid (rows.take (n + 1) = rows.take n ++ [rows[n]]) := hid (List.take_succ_eq_append_getElem hlt)
      have HL8 := hid (HG.out _ (List.getElem_mem hlt))
      have hnn : (0 : Int) ≤ n := by omega
      generalize rows[n] = x at *
      obtain ⟨va, vc, rfl, hu2⟩ := hu1
      have HV : Hid (IsVals wr (.slice va x.vals.length vc) x.vals) := hid (SliceOf.later (S := All) ⟨va, vc, rfl, hu2⟩ HL.out)
      replace q1 := HL.out.cell q1
      replace q2 := HL.out.cell q2
      clear hu2
      go_wp2_with fail
      refine (copy_row x.time x.vals _ _ HV.out HL8.out).mono ?_
      rintro e w2 ⟨v2, rfl, hO2, hL2⟩
      obtain ⟨a2, c2, rfl⟩ := ownsRow_slice hO2
      obtain ⟨vs, hl, hor, hvs⟩ := HO.out
      have HVS : Hid (∀ i (h : i < (rows.take n).length), ValsOwn (fun b => w.heap.size ≤ b ∧ some b ≠ (Value.slice a0 n c0).ownBlock) w2 (vs[i]'(by omega)) (rows.take n)[i].vals) := hid fun i hi => (hvs i hi).o_later hL2
      have HOR := hid (own_later hor hL2)
      have HSV : Hid (∀ k, (Value.slice a0 n c0).ownBlock = some k → k < wr.heap.size) := hid fun k hk => (hor.lt k hk).2
      have HO2 := hid hO2
      have HL2 := hid (Later.trans _ _ _ HL.out hL2)
      have HHL := hid hl
      have HW2 : Hid (w.heap.size ≤ wr.heap.size) := hid HL.out.size
      have hlr : (rows.take n).length = n := by rw [List.length_take]; omega
      have HLR := hid hlr
      clear hL2 hO2 q1 q2 HV HO HL hlr
      have t0 := cell_obj (i := 0) (obj_new w2 (.cells #[.int .i64 x.time, .slice a2 x.vals.length c2] 37)) rfl
      go_wp2_with (at_builtin; go_loud (refine wpList_append_obj rfl _ _ 22 rfl 37 2 32 Tryd.underlying22 infoRw rfl (own_later HOR.out ((Later.alloc _ _).alloc' _)) (news := [.int .i64 x.time, .slice a2 x.vals.length c2]) rfl (obj_at (by simp)) rfl (oneCell_row rfl) (by rw [HLR.out]; omega) (by rw [HLR.out]; unfold maxLen; omega) (by have := HL2.out.size; simp only [World.size_alloc]; omega) ?_))
      intro v7 w7 hA7
      have hne : ValsOwn (fun b => w.heap.size ≤ b ∧ some b ≠ (Value.slice a0 n c0).ownBlock) ((w2.alloc (.cells #[.int .i64 x.time, .slice a2 x.vals.length c2] 37)).alloc (.cells #[.int .i64 x.time, .slice a2 x.vals.length c2] 37)) (.slice a2 x.vals.length c2) x.vals :=
        ((vals_away HO2.out rfl HW2.out HSV.out).o_later (Later.alloc _ _)).o_later (Later.alloc _ _)
      have hR7 : RowsOwnF w.heap.size w7 v7 (rows.take n ++ [x]) := rows_add HHL.out (fun i hi => ((HVS.out i hi).o_later (Later.alloc _ _)).o_later (Later.alloc _ _)) hne (by rw [HLR.out]; exact hA7)
      rw [← HX.out] at hR7
      obtain ⟨a7, c7, rfl⟩ := ownsRow_slice hA7.own
      have hL7 : Later w w7 := hA7.later (own_later HOR.out ((Later.alloc _ _).alloc' _)) ((HL2.out.alloc' _).alloc' _) (Nat.le_refl _)
      have HR7 := hid hR7
      have HL7 := hid hL7
      clear hR7 hL7 hA7 hne t0
      go_wp2
      go_roundw
      case rel => exact ⟨n + 1, a7, c7, by omega, by go_num, rfl, HL7.out, HR7.out⟩
      case measure => simp [intOf]; omega
    · obtain rfl : n = rows.length := by omega
      have ho := HO.out
      rw [List.take_length] at ho
      have HR7 := hid ho
      clear ho HO
      go_wp2
      go_ret
      exact ⟨_, rfl, HR7.out, HL.out⟩
end Go.Proofs.YthfgjmdmcoogpaaDoor
