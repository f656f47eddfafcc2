/-
  PROVED HERE: the contract of the document's ValidRow.
  PROVED HERE: a contract of the document's Before.
  PROVED HERE: contracts of the document's Before, ListBefore, RowBefore.
  PROVED HERE: the document's store in memory; the contracts of its Owns, before, at.
-/
import Derived.Test.YtgcnchmnciihnaaGreatDoorGRefQuote
import Derived.Test.YtgcnchmnciihnaaGreatDoorGReaderKit
import Derived.Test.YtgcnchmnciihnaaGreatDoorGPutAt
import Derived.Test.YtgcnchmnciihnaaGreatDoorGValue
import Derived.OpenShut
import Derived.ShutString
import Derived.ChangeOld
import Derived.Test.YtgcnchmnciihnaaGreatDoorGStBack
import Derived.Test.YtgcnchmnciihnaaGreatDoorGAppX
import Derived.Test.YtgcnchmnciihnaaGreatDoorGSavePlain
import Derived.Test.YtgcnchmnciihnaaGreatDoorGU8
namespace Go.Proofs.YtgcnchmnciihnaaGreatDoor
set_option linter.unusedSimpArgs false
set_option linter.unusedVariables false
open Go.RowKit

def ValidTo (w : World) (b : Bool) (e : Ending) (w' : World) : Prop := e = .returned (.bool b) ∧ Later w w'
theorem all_take {l : List Val} {k : Nat} (h : k < l.length) : (l.take (k + 1)).all validV = ((l.take k).all validV && validV l[k]) := by
  rw [List.take_succ_eq_append_getElem h, List.all_append]; simp
theorem all_false {l : List Val} {k : Nat} (h : k < l.length) (hv : validV l[k] = false) : l.all validV = false := by
  rw [Bool.eq_false_iff]
  intro ha
  have := List.all_eq_true.1 ha _ (List.getElem_mem h)
  rw [hv] at this; cases this
set_option maxRecDepth 100000 in
set_option maxHeartbeats 1000000 in
theorem rvalid_row (t : Int) (l : List Val) (v : Value) (w : World) (hv : IsVals w v l) :
    Calls Tryz.prog 40 #[.agg #[.int .i64 t, v]] w (ValidTo w (validR ⟨t, l⟩)) := by
  have HV := hid hv
  obtain ⟨p, c, rfl, hl, hc, -, -⟩ := hv
  unfold maxLen at hc
  go_enter Tryz.func40, Tryz.ntmps40
  go_wp2_with fail
  go_loopw [3] (fun iv wr => ∃ (k : Nat), k ≤ l.length ∧ iv = .int .i64 k ∧ Later (w.alloc (.cells #[.int .i64 t, .slice p l.length c] 91)) wr ∧ Hid ((l.take k).all validV = true)) (fun iv _ => l.length - (intOf iv).toNat)
  case atStart => exact ⟨0, by omega, rfl, Later.refl _, hid rfl⟩
  case round =>
    obtain ⟨k, hk, rfl, hL, hall⟩ := hrel
    have hX := hL.obj (obj_new w _)
    have x0 := cell_obj (i := 0) hX rfl
    have x1 := cell_obj (i := 1) hX rfl
    have HL := hid hL
    have hLw := Later.of_alloc hL
    have hk0 : (0 : Int) ≤ k := by omega
    clear hX
    by_cases hlt : k < l.length
    · obtain ⟨a2, c2, hv2, -, -, -, hel⟩ := HV.out.later hLw
      simp only [Value.slice.injEq, true_and] at hv2
      obtain ⟨rfl, rfl⟩ := hv2
      obtain ⟨b, o, rfl, -, e0, e1, e2⟩ := hel k hlt
      have HT := hid (all_take hlt)
      have HF : Hid (validV l[k] = false → l.all validV = false) := hid (all_false hlt)
      generalize l[k] = x at *
      clear hel hL hLw
      cases hvx : validV x with
      | true =>
        have HVX := hid hvx
        clear hvx
        go_wp2_with fail
        refine (rvalid_any x _).mono ?_
        rintro e w2 ⟨rfl, hL2⟩
        rw [HVX.out]
        have HL2 := hid (Later.trans _ _ _ HL.out hL2)
        clear hL2 e0 e1 e2 x0 x1
        go_wp2
        go_roundw
        case rel => exact ⟨k + 1, by omega, by go_num, HL2.out, hid (by rw [HT.out, hall.out, HVX.out]; rfl)⟩
        case measure => simp [intOf]; omega
      | false =>
        have HVX := hid hvx
        clear hvx
        go_wp2_with fail
        refine (rvalid_any x _).mono ?_
        rintro e w2 ⟨rfl, hL2⟩
        rw [HVX.out]
        have HL2 := hid (Later.trans _ _ _ HL.out hL2)
        clear hL2 e0 e1 e2 x0 x1
        go_wp2
        go_ret
        exact ⟨ret_bool (by simp [validR, HF.out HVX.out]), Later.of_alloc HL2.out⟩
    · obtain rfl : k = l.length := by omega
      have HA : Hid (l.all validV = true) := hid (by have := hall.out; rwa [List.take_length] at this)
      clear hL hLw
      by_cases h0 : 0 ≤ t
      · have h0' : decide (0 ≤ t) = true := decide_eq_true h0
        by_cases h1 : t ≤ 1099511627776
        · have h1' : decide (t ≤ 1099511627776) = true := decide_eq_true h1
          go_wp2
          go_ret
          exact ⟨ret_bool (by simp [validR, HA.out, h0, h1]; omega), Later.of_alloc HL.out⟩
        · have h1' : decide (t ≤ 1099511627776) = false := decide_eq_false h1
          have HQ : Hid (validR ⟨t, l⟩ = false) := hid (by simp [validR, h1])
          go_wp2
          go_ret
          exact ⟨ret_bool HQ.out.symm, Later.of_alloc HL.out⟩
      · have h0' : decide (0 ≤ t) = false := decide_eq_false h0
        have HQ : Hid (validR ⟨t, l⟩ = false) := hid (by simp [validR, h0])
        go_wp2
        go_ret
        exact ⟨ret_bool HQ.out.symm, Later.of_alloc HL.out⟩
end Go.Proofs.YtgcnchmnciihnaaGreatDoor
namespace Go.Proofs.YtgcnchmnciihnaaGreatDoor
set_option linter.unusedSimpArgs false
set_option linter.unusedVariables false
open Go.ChangeShapes Go.WideShapes Go.ChangeAt Go.RowKit

attribute [local go_sem high] run_eql_val' run_neq_val'
theorem before_any (x y : Val) (w : World) :
    Calls Tryz.prog 69 #[x.v, y.v] w fun e w' => e = .returned (.bool (beforeV x y)) ∧ Later w w' := by
  obtain ⟨k1, n1, t1⟩ := x
  obtain ⟨k2, n2, t2⟩ := y
  by_cases hk : k1 = k2
  · by_cases hn : n1 = n2
    · subst hk hn
      have HR : Hid (beforeV ⟨k1, n1, t1⟩ ⟨k1, n1, t2⟩ = Op.bytesLess t1.toList t2.toList) := hid (by simp [beforeV, str])
      go_enter Tryz.func69, Tryz.ntmps69
      go_wp2
      go_ret
      exact ⟨ret_bool HR.out.symm, ((Later.refl _).alloc' _).alloc' _⟩
    · subst hk
      have HR : Hid (beforeV ⟨k1, n1, t1⟩ ⟨k1, n2, t2⟩ = decide (n1 < n2)) := hid (by simp [beforeV, hn])
      have hn' : (n1 != n2) = true := by simpa using hn
      clear hn
      go_enter Tryz.func69, Tryz.ntmps69
      go_wp2
      go_ret
      exact ⟨ret_bool HR.out.symm, ((Later.refl _).alloc' _).alloc' _⟩
  · have HR : Hid (beforeV ⟨k1, n1, t1⟩ ⟨k2, n2, t2⟩ = decide (k1 < k2)) := hid (by simp [beforeV, hk])
    have hn' : (k1 != k2) = true := by simpa using hk
    clear hk
    go_enter Tryz.func69, Tryz.ntmps69
    go_wp2
    go_ret
    exact ⟨ret_bool HR.out.symm, ((Later.refl _).alloc' _).alloc' _⟩
end Go.Proofs.YtgcnchmnciihnaaGreatDoor
namespace Go.Proofs.YtgcnchmnciihnaaGreatDoor
set_option linter.unusedSimpArgs false
set_option linter.unusedVariables false
open Go.ChangeShapes Go.WideShapes Go.ChangeAt Go.RowKit

attribute [local go_sem high] run_eql_val' run_neq_val'
theorem before_list (a b : List Val) (v u : Value) (w : World) (ha : IsVals w v a) (hb : IsVals w u b) :
    Calls Tryz.prog 43 #[v, u] w fun e w' => e = .returned (.bool (beforeL a b)) ∧ Later w w' := by
  obtain ⟨p, c, rfl, hac, hcm, -, hea⟩ := ha
  obtain ⟨q, d, rfl, hbd, hdm, -, heb⟩ := hb
  unfold maxLen at hcm hdm
  go_enter Tryz.func43, Tryz.ntmps43
  go_wp2
  go_loopw [5] (fun i wr => ∃ n : Nat, n ≤ a.length ∧ n ≤ b.length ∧ i = .int .i64 n ∧ Later w wr ∧ Hid (beforeL a b = beforeL (a.drop n) (b.drop n))) (fun i _ => a.length - (intOf i).toNat)
  case atStart => exact ⟨0, by omega, by omega, rfl, Later.refl _, rfl⟩
  case round =>
    obtain ⟨n, hn1, hn2, rfl, hL, hq⟩ := hrel
    by_cases h1 : n < a.length
    · obtain ⟨b1, o1, rfl, -, e1⟩ := hea n h1
      obtain ⟨p1, p2, p3⟩ := e1.later hL
      have HA := hid hea; have HB := hid heb; clear hea heb e1
      have hd1 : a.drop n = a[n] :: a.drop (n + 1) := List.drop_eq_getElem_cons h1
      have HD1 := hid hd1; clear hd1
      by_cases h2 : n < b.length
      · obtain ⟨b2, o2, rfl, -, e2⟩ := HB.out n h2
        obtain ⟨q1, q2, q3⟩ := e2.later hL
        clear e2
        have hd2 : b.drop n = b[n] :: b.drop (n + 1) := List.drop_eq_getElem_cons h2
        have HD2 := hid hd2; clear hd2
        have hl1 : b1 < wr.heap.size := cell_lt p1
        have hl2 : b2 < wr.heap.size := cell_lt q1
        have hnn : (0 : Int) ≤ n := by omega
        generalize hx : a[n] = x at *
        generalize hy : b[n] = y at *
        clear hx hy
        cases hc : eqV x y with
        | true =>
          have HC := hid hc
          go_wp2
          refine wp_region_lex (by kernel_rfl) (by kernel_rfl) Later Later.refl Later.trans (fun _ => none) (fun _ _ _ _ _ h => by cases h) ?_
          simp only [numbered, Nat.reduceAdd]
          iterate 9
            first
            | (refine Lex.skip rfl ?_; simp only [Act.put, List.setIfInBounds_toArray, List.set])
            | (refine Lex.one' rfl rfl ?_
               apply Exists.intro
               refine ⟨fun w hR hF => ?_, ?_⟩
               · have hP := hR
                 repeat (first | replace hP := Later.of_drew hP | replace hP := Later.of_drewN hP | replace hP := Later.of_alloc hP)
                 have hcs := hR.cells
                 have zp1 := hP.cell p1
                 have zp2 := hP.cell p2
                 have zp3 := hP.cell p3
                 have zq1 := hP.cell q1
                 have zq2 := hP.cell q2
                 have zq3 := hP.cell q3
                 clear hR hF hP
                 go_simp
                 first | done | rfl
               simp only [Act.put, List.setIfInBounds_toArray, List.set])
          intro w1 hR1 hF9
          clear hF9
          repeat (first | replace hR1 := Later.of_drew hR1 | replace hR1 := Later.of_drewN hR1 | replace hR1 := Later.of_alloc hR1)
          go_wp2
          go_roundw
          case rel => exact ⟨n + 1, by omega, by omega, by go_num, Later.trans _ _ _ hL hR1, hid (hq.out.trans (by rw [HD1.out, HD2.out]; simp only [beforeL, HC.out, if_true]))⟩
          case measure => simp [intOf]; omega
        | false =>
          have HR : Hid (beforeL a b = beforeV x y) := hid (hq.out.trans (by rw [HD1.out, HD2.out]; simp only [beforeL, hc]; rfl))
          go_wp2
          refine wp_region_lex (by kernel_rfl) (by kernel_rfl) Later Later.refl Later.trans (fun _ => none) (fun _ _ _ _ _ h => by cases h) ?_
          simp only [numbered, Nat.reduceAdd]
          iterate 9
            first
            | (refine Lex.skip rfl ?_; simp only [Act.put, List.setIfInBounds_toArray, List.set])
            | (refine Lex.one' rfl rfl ?_
               apply Exists.intro
               refine ⟨fun w hR hF => ?_, ?_⟩
               · have hP := hR
                 repeat (first | replace hP := Later.of_drew hP | replace hP := Later.of_drewN hP | replace hP := Later.of_alloc hP)
                 have hcs := hR.cells
                 have zp1 := hP.cell p1
                 have zp2 := hP.cell p2
                 have zp3 := hP.cell p3
                 have zq1 := hP.cell q1
                 have zq2 := hP.cell q2
                 have zq3 := hP.cell q3
                 clear hR hF hP
                 go_simp
                 first | done | rfl
               simp only [Act.put, List.setIfInBounds_toArray, List.set])
          intro w1 hR1 hF9
          clear hF9
          repeat (first | replace hR1 := Later.of_drew hR1 | replace hR1 := Later.of_drewN hR1 | replace hR1 := Later.of_alloc hR1)
          replace p1 := hR1.cell p1
          replace p2 := hR1.cell p2
          replace p3 := hR1.cell p3
          replace q1 := hR1.cell q1
          replace q2 := hR1.cell q2
          replace q3 := hR1.cell q3
          replace hl1 : b1 < w1.heap.size := cell_lt p1
          replace hl2 : b2 < w1.heap.size := cell_lt q1
          replace hR1 := hid hR1
          go_wp2
          refine wp_region_lex (by kernel_rfl) (by kernel_rfl) Later Later.refl Later.trans (kinds [(8, fun v _ => v = .bool (beforeV x y))]) (kinds_still (by simp +contextual)) ?_
          simp only [numbered, Nat.reduceAdd]
          iterate 8
            first
            | (refine Lex.skip rfl ?_; simp only [Act.put, List.setIfInBounds_toArray, List.set])
            | (refine Lex.one' rfl rfl ?_
               apply Exists.intro
               refine ⟨fun w hR hF => ?_, ?_⟩
               · have hP := hR
                 repeat (first | replace hP := Later.of_drew hP | replace hP := Later.of_drewN hP | replace hP := Later.of_alloc hP)
                 have hcs := hR.cells
                 have zp1 := hP.cell p1
                 have zp2 := hP.cell p2
                 have zp3 := hP.cell p3
                 have zq1 := hP.cell q1
                 have zq2 := hP.cell q2
                 have zq3 := hP.cell q3
                 clear hR hF hP
                 go_simp
                 first | done | rfl
               simp only [Act.put, List.setIfInBounds_toArray, List.set])
          refine Lex.anyEq rfl rfl (fun w hR hF => ?_) ?_
          · have hP := hR
            repeat (first | replace hP := Later.of_drew hP | replace hP := Later.of_drewN hP | replace hP := Later.of_alloc hP)
            have hcs := hR.cells
            clear hF hR
            unfold Runs
            go_simp
            unfold Yield
            refine (before_any x y _).mono ?_
            rintro e w' ⟨rfl, hL⟩
            exact ⟨_, rfl, hL, rfl⟩
          simp only [Act.put, List.setIfInBounds_toArray, List.set]
          iterate 1
            first
            | (refine Lex.skip rfl ?_; simp only [Act.put, List.setIfInBounds_toArray, List.set])
            | (refine Lex.one' rfl rfl ?_
               apply Exists.intro
               refine ⟨fun w hR hF => ?_, ?_⟩
               · have hP := hR
                 repeat (first | replace hP := Later.of_drew hP | replace hP := Later.of_drewN hP | replace hP := Later.of_alloc hP)
                 have hcs := hR.cells
                 clear hR hF hP
                 go_simp
                 first | done | rfl
               simp only [Act.put, List.setIfInBounds_toArray, List.set])
          intro w2 hR2 hF9
          clear hF9
          repeat (first | replace hR2 := Later.of_drew hR2 | replace hR2 := Later.of_drewN hR2 | replace hR2 := Later.of_alloc hR2)
          go_wp2
          go_ret
          exact ⟨ret_bool HR.out.symm, Later.trans _ _ _ hL (Later.trans _ _ _ hR1.out hR2)⟩
      · have h2' : b.length ≤ n := by omega
        have h3 : b.length ≤ a.length := by omega
        have h4 : ¬ a.length < b.length := by omega
        have HR : Hid (beforeL a b = false) := hid (hq.out.trans (by rw [HD1.out, List.drop_eq_nil_of_le h2']; rfl))
        generalize hx : a[n] = x at *
        clear hx
        go_wp2
        go_ret
        exact ⟨ret_bool HR.out.symm, hL⟩
    · have h1' : a.drop n = [] := List.drop_eq_nil_of_le (by omega)
      have HR : Hid (beforeL a b = decide (a.length < b.length)) := hid (hq.out.trans (by
        rw [h1']
        by_cases h2 : n < b.length
        · rw [List.drop_eq_getElem_cons h2]; simp only [beforeL]; exact (decide_eq_true (by omega)).symm
        · rw [List.drop_eq_nil_of_le (by omega : b.length ≤ n)]; simp only [beforeL]; exact (decide_eq_false (by omega)).symm))
      clear hea heb h1'
      go_wp2
      go_ret
      exact ⟨ret_bool (by rw [HR.out]), hL⟩

end Go.Proofs.YtgcnchmnciihnaaGreatDoor
namespace Go.Proofs.YtgcnchmnciihnaaGreatDoor
set_option linter.unusedSimpArgs false
set_option linter.unusedVariables false
open Go Go.RowKit

theorem run_eql_win (w : World) (x y x' y' : Int) : (binOp .eql 34 (.agg #[.int .i64 x, .int .i64 y]) (.agg #[.int .i64 x', .int .i64 y'])).run Tryz.prog w = .ok (.bool (decide ((x, y) = (x', y')))) w := by
  go_simp
  by_cases h1 : x = x' <;> by_cases h2 : y = y' <;> simp [h1, h2]
theorem run_neq_win (w : World) (x y x' y' : Int) : (binOp .neq 34 (.agg #[.int .i64 x, .int .i64 y]) (.agg #[.int .i64 x', .int .i64 y'])).run Tryz.prog w = .ok (.bool (!decide ((x, y) = (x', y')))) w := by
  go_simp
  by_cases h1 : x = x' <;> by_cases h2 : y = y' <;> simp [h1, h2]
theorem rcellObj : (Tryz.prog.info? 73).map (fun i => (i.zero, i.size, i.bytes)) = some (some (.agg #[.slice none 0 0, .int .i64 0, .int .i64 0, .slice none 0 0]), 4, 64) := by kernel_rfl
theorem rcellElem : ElemInfo Tryz.prog 73 4 64 := ElemInfo.of rcellObj rfl (by decide)
abbrev OwnC (B : Nat) (w : World) (v : Value) (l : List KX) : Prop := w.ownsRow B 73 4 v l.length (kxCells l)
theorem OwnC.cells {B n c : Nat} {w : World} {a : Option Addr} {l : List KX} (h : OwnC B w (.slice a n c) l) {i : Nat} (hi : i < l.length) :
    ∃ g, a = some ⟨g, 0, none⟩ ∧ B ≤ g ∧ w.cell? ⟨g, i * 4, none⟩ = some l[i].kv ∧ w.cell? ⟨g, i * 4 + 1, none⟩ = some (.int .i64 l[i].cell.win.1) ∧ w.cell? ⟨g, i * 4 + 2, none⟩ = some (.int .i64 l[i].cell.win.2) ∧ w.cell? ⟨g, i * 4 + 3, none⟩ = some l[i].dv ∧ ∀ j, w.frozen? ⟨g, j, none⟩ = false := by
  rcases h.2 with ⟨e, h0⟩ | ⟨g, cap, cur, e, hb, hg, h1, h2, h3, h4⟩
  · omega
  · simp only [Value.slice.injEq] at e
    obtain ⟨rfl, rfl, rfl⟩ := e
    obtain ⟨q0, q1, q2, q3⟩ := kxCells_at l i hi
    have key : ∀ j v, (kxCells l)[j]? = some v → w.cell? ⟨g, j, none⟩ = some v := fun j v hv => by
      refine cell_obj hg ?_
      rw [← h4] at hv
      rw [List.getElem?_take] at hv
      split at hv
      · rwa [Array.getElem?_toList] at hv
      · cases hv
    exact ⟨g, rfl, hb, key _ _ q0, key _ _ q1, key _ _ q2, key _ _ q3, fun j => free_obj hg⟩
/-- the document's store: D its struct, v its slice, ks its cells and their slices. -/
structure RefAt (B : Nat) (w : World) (D : Nat) (lo hi : Int) (v : Value) (ks : List KX) : Prop where
  obj : w.heap[D]? = some (.cells #[.int .i64 lo, .int .i64 hi, v] 31 (0, 0))
  own : OwnC B w v ks
  held : ∀ x ∈ ks, HeldIn (fun b => B ≤ b ∧ b ≠ D ∧ v.ownBlock ≠ some b) w x
  base : B ≤ D
  st : Store lo hi (ks.map (·.cell))
  ok : ∀ x ∈ ks, ∀ y ∈ x.cell.key, ValOk y
section
variable {B D : Nat} {w w' : World} {lo hi : Int} {v : Value} {ks : List KX}
theorem RefAt.kept {K : Nat → Prop} (h : RefAt B w D lo hi v ks) (k : Keeps K w w') (hK : ∀ b, B ≤ b → b < w.heap.size → K b) : RefAt B w' D lo hi v ks :=
  { h with
    obj := k.obj (hK _ h.base (Array.getElem?_eq_some_iff.1 h.obj).1) h.obj
    own := owns_keep h.own k fun b hb => hK b (ownb h.own b hb).1 (ownb h.own b hb).2
    held := fun x hx => (h.held x hx).kept k fun b hb hl => hK b hb.1 hl }
theorem RefAt.later (h : RefAt B w D lo hi v ks) (k : Later w w') : RefAt B w' D lo hi v ks := h.kept (k.keeps fun _ => True) fun _ _ _ => trivial
theorem RefAt.slice (h : RefAt B w D lo hi v ks) : ∃ a c, v = .slice a ks.length c := ownsRow_slice h.own
theorem RefAt.len (h : RefAt B w D lo hi v ks) : ks.length ≤ 2097152 := by
  have h1 := weightL_length (ks.map (·.cell))
  have h2 := h.st.full
  rw [List.length_map] at h1
  omega
theorem KX.key {U : Nat → Prop} {w : World} {x : KX} (h : HeldIn U w x) : ∃ a k b m, x.kv = .slice a x.cell.key.length k ∧ x.dv = .slice b x.cell.data.length m := by
  obtain ⟨a, k, h1, -⟩ := h.1
  obtain ⟨b, m, h2, -⟩ := h.2
  exact ⟨a, k, b, m, h1, h2⟩
end

set_option maxHeartbeats 1000000 in
theorem rowns_any (key : List Val) (kv : Value) {B D : Nat} {lo hi : Int} {v : Value} {ks : List KX} (w : World) (h : RefAt B w D lo hi v ks) (hv : IsVals w kv key) (hg : ∀ x ∈ key, ValOk x) :
    Calls Tryz.prog 22 #[.pointer (some ⟨D, 0, none⟩), kv] w (TruthTo w (ownsK lo hi key)) := by
  have HH := hid h; have HV := hid hv; have HG := hid hg
  have HOW : Hid (ownsK lo hi key = (validR ⟨0, key⟩ && (decide (lo ≤ groupK key) && decide ((groupK key : Int) < hi)))) := hid rfl
  have hg32 := groupK_lt key
  obtain ⟨a, cp, rfl, -⟩ := hv
  clear h hg
  go_enter Tryz.func22, Tryz.ntmps22
  go_wp2_with fail
  refine (rgroup_any key _ _ HV.out HG.out).mono ?_
  rintro e w1 ⟨rfl, hL⟩
  have HL := hid hL
  clear hL
  go_wp2_with fail
  refine (rvalid_row 0 key _ _ (HV.out.later HL.out)).mono ?_
  rintro e w2 ⟨rfl, hL2⟩
  have HL2 := hid (Later.trans _ _ _ HL.out hL2)
  have hob := HL2.out.obj HH.out.obj
  have c0 := cell_obj (i := 0) hob (v := .int .i64 lo) rfl
  have c1 := cell_obj (i := 1) hob (v := .int .i64 hi) rfl
  clear hob hL2
  generalize groupK key = g at *
  cases hvr : validR ⟨0, key⟩ with
  | false =>
    go_wp2_with fail
    go_ret
    exact ⟨by rw [HOW.out, hvr]; rfl, HL2.out⟩
  | true =>
    rw [hvr] at HOW
    clear hvr
    by_cases h1 : lo ≤ (g : Int) <;> by_cases h2 : (g : Int) < hi
    all_goals
      go_wp2_with fail
      go_ret
      exact ⟨by rw [HOW.out]; simp [h1, h2], HL2.out⟩

theorem rwbefore_any (a b : Win) (w : World) : Calls Tryz.prog 42 #[.agg #[.int .i64 a.1, .int .i64 a.2], .agg #[.int .i64 b.1, .int .i64 b.2]] w (TruthTo w (decide (a.2 < b.2 ∨ a.2 = b.2 ∧ a.1 < b.1))) := by
  obtain ⟨a1, a2⟩ := a
  obtain ⟨b1, b2⟩ := b
  rcases Int.lt_trichotomy a2 b2 with h | h | h
  · have H := hid h
    have HM := hid (show decide (a2 < b2 ∨ a2 = b2 ∧ a1 < b1) = true from decide_eq_true (.inl h))
    simp only [HM.out]
    go_enter Tryz.func42, Tryz.ntmps42
    go_wp2
    go_ret
    exact ⟨rfl, Later.trans _ _ _ (Later.alloc _ _) (Later.alloc _ _)⟩
  · subst h
    by_cases h3 : a1 < b1
    all_goals
      have H := hid h3
      simp only [Int.lt_irrefl, true_and, false_or]
      go_enter Tryz.func42, Tryz.ntmps42
      go_wp2
      go_ret
      exact ⟨ret_bool (by have := H.out; simp [*]), Later.trans _ _ _ (Later.alloc _ _) (Later.alloc _ _)⟩
  · have HM := hid (show decide (a2 < b2 ∨ a2 = b2 ∧ a1 < b1) = false from decide_eq_false (by omega))
    have hne : ¬ a2 = b2 := by omega
    have hne2 : ¬ a2 < b2 := by omega
    simp only [HM.out]
    clear h
    go_enter Tryz.func42, Tryz.ntmps42
    go_wp2
    go_ret
    exact ⟨rfl, Later.trans _ _ _ (Later.alloc _ _) (Later.alloc _ _)⟩

attribute [local go_sem high] run_eql_win run_neq_win
set_option maxHeartbeats 1000000 in
theorem rbefore_any (x y : CellP) (kx dx ky dy : Value) (w : World) (hx : IsVals w kx x.key) (hy : IsVals w ky y.key) (hdx : ∃ a n c, dx = .slice a n c) (hdy : ∃ a n c, dy = .slice a n c) :
    Calls Tryz.prog 24 #[.agg #[kx, .int .i64 x.win.1, .int .i64 x.win.2, dx], .agg #[ky, .int .i64 y.win.1, .int .i64 y.win.2, dy]] w (TruthTo w (decide (cmpC x y < 0))) := by
  rw [← beforeC_cmp]
  have HX := hid hx; have HY := hid hy
  obtain ⟨ax, cx, rfl, -⟩ := hx
  obtain ⟨ay, cy, rfl, -⟩ := hy
  obtain ⟨ad, nd, cd, rfl⟩ := hdx
  obtain ⟨ae, ne, ce, rfl⟩ := hdy
  obtain ⟨xk, ⟨x1, x2⟩, xd⟩ := x
  obtain ⟨yk, ⟨y1, y2⟩, yd⟩ := y
  have HB := hid (show beforeC ⟨xk, (x1, x2), xd⟩ ⟨yk, (y1, y2), yd⟩ = if (x1, x2) = (y1, y2) then beforeL xk yk else decide (x2 < y2 ∨ x2 = y2 ∧ x1 < y1) from rfl)
  generalize beforeC ⟨xk, (x1, x2), xd⟩ ⟨yk, (y1, y2), yd⟩ = b at *
  go_enter Tryz.func24, Tryz.ntmps24
  obtain ⟨w1, hw1⟩ : ∃ W, W = (w.alloc (.cells #[.slice ax xk.length cx, .int .i64 x1, .int .i64 x2, .slice ad nd cd] 73)).alloc (.cells #[.slice ay yk.length cy, .int .i64 y1, .int .i64 y2, .slice ae ne ce] 73) := ⟨_, rfl⟩
  have hL1 : Later w w1 := by rw [hw1]; exact Later.trans _ _ _ (Later.alloc _ _) (Later.alloc _ _)
  have o1 : w1.heap[w.heap.size]? = some (.cells #[.slice ax xk.length cx, .int .i64 x1, .int .i64 x2, .slice ad nd cd] 73 (0, 0)) := by rw [hw1]; exact (Later.alloc _ _).obj (obj_new _ _)
  have o2 : w1.heap[w.heap.size + 1]? = some (.cells #[.slice ay yk.length cy, .int .i64 y1, .int .i64 y2, .slice ae ne ce] 73 (0, 0)) := by rw [hw1]; exact obj_at (by simp)
  go_upto_region 1 with (fail)
  rw [← hw1]
  have HL1 := hid hL1
  have k0 := cell_obj (i := 0) o1 rfl
  have k1 := cell_obj (i := 1) o1 rfl
  have k2 := cell_obj (i := 2) o1 rfl
  have l0 := cell_obj (i := 0) o2 rfl
  have l1 := cell_obj (i := 1) o2 rfl
  have l2 := cell_obj (i := 2) o2 rfl
  clear hw1 o1 o2 hL1
  have tail : ∀ h : (x1 ≠ y1 ∨ x2 ≠ y2), b = decide (x2 < y2 ∨ x2 = y2 ∧ x1 < y1) := fun h => by
    rw [HB.out, if_neg]
    intro e
    simp only [Prod.mk.injEq] at e
    omega
  have HT := hid tail
  clear tail
  by_cases h1 : x1 = y1
  · by_cases h2 : x2 = y2
    · subst h1 h2
      rw [if_pos rfl] at HB
      clear HT
      go_wp2_with fail
      refine (before_list xk yk _ _ _ (HX.out.later HL1.out) (HY.out.later HL1.out)).mono ?_
      rintro e w2 ⟨rfl, hL2⟩
      go_wp2_with fail
      go_ret
      exact ⟨ret_bool HB.out.symm, Later.trans _ _ _ HL1.out hL2⟩
    · have HB2 := hid (HT.out (.inr h2))
      subst h1
      clear HB HT
      go_wp2_with fail
      refine (rwbefore_any (x1, x2) (x1, y2) _).mono ?_
      rintro e w2 ⟨rfl, hL2⟩
      go_wp2_with fail
      go_ret
      exact ⟨ret_bool (by rw [HB2.out]; simp), Later.trans _ _ _ HL1.out hL2⟩
  · have HB2 := hid (HT.out (.inl h1))
    clear HB HT
    go_wp2_with fail
    refine (rwbefore_any (x1, x2) (y1, y2) _).mono ?_
    rintro e w2 ⟨rfl, hL2⟩
    go_wp2_with fail
    go_ret
    exact ⟨ret_bool (by rw [HB2.out]; simp), Later.trans _ _ _ HL1.out hL2⟩
theorem sameV_eq : ∀ {a b : List Val}, sameV a b = true ↔ a = b
  | [], [] => by simp [sameV]
  | [], _ :: _ => by simp [sameV]
  | _ :: _, [] => by simp [sameV]
  | x :: a, y :: b => by
    unfold sameV
    rw [Bool.and_eq_true, valEq_iff, sameV_eq, List.cons.injEq]
/-- where a cell of a key and window is, or that there is none. -/
def FoundTo (w : World) (i : Idn) (ks : List KX) (e : Ending) (w' : World) : Prop := ∃ n : Int, e = .returned (.int .i64 n) ∧ Later w w' ∧ ((n = -1 ∧ ∀ x ∈ ks, idC x.cell ≠ i) ∨ ∃ (k : Nat) (h : k < ks.length), n = k ∧ idC ks[k].cell = i)
set_option maxRecDepth 100000 in
set_option maxHeartbeats 2000000 in
theorem rat_any (i : Idn) (kv : Value) {B D : Nat} {lo hi : Int} {v : Value} {ks : List KX} (w : World) (h : RefAt B w D lo hi v ks) (hv : IsVals w kv i.2) :
    Calls Tryz.prog 23 #[.pointer (some ⟨D, 0, none⟩), kv, .agg #[.int .i64 i.1.1, .int .i64 i.1.2]] w (FoundTo w i ks) := by
  have HH := hid h; have HV := hid hv
  obtain ⟨a, cp, rfl, -⟩ := hv
  obtain ⟨va, vc, rfl⟩ := h.slice
  have HKL := hid h.len
  obtain ⟨⟨f, t⟩, key⟩ := i
  clear h
  go_enter Tryz.func23, Tryz.ntmps23
  obtain ⟨w0, hw0⟩ : ∃ W, W = w.alloc (.cells #[.int .i64 f, .int .i64 t] 34) := ⟨_, rfl⟩
  have HL0 : Hid (Later w w0) := hid (by rw [hw0]; exact Later.alloc _ _)
  have HT0 : Hid (w0.heap[w.heap.size]? = some (.cells #[.int .i64 f, .int .i64 t] 34 (0, 0))) := hid (by rw [hw0]; exact obj_new _ _)
  go_upto_region 1 with (fail)
  rw [← hw0]
  clear hw0
  obtain ⟨T, hT⟩ : ∃ T, T = w.heap.size := ⟨_, rfl⟩
  rw [← hT] at HT0 ⊢
  clear hT
  go_wp2_with fail
  obtain ⟨R1, hR1⟩ : ∃ RR_ : (Nat → Value) → World → Prop, RR_ = (fun us wx => ∃ n : Nat, us 7 = .int .i64 n ∧ n ≤ ks.length ∧ Later w0 wx ∧ ∀ j (h : j < ks.length), j < n → idC ks[j].cell ≠ ((f, t), key)) := ⟨_, rfl⟩
  obtain ⟨mu1, hmu1⟩ : ∃ mu : (Nat → Value) → World → Nat, mu = (fun us _ => ks.length - (intOf (us 7)).toNat) := ⟨_, rfl⟩
  have HR1 := hid hR1; have Hmu1 := hid hmu1; clear hR1 hmu1
  refine wp_loop_frame' [false, false, false, false, false, false, true, true, true, true, true, true, true, true, true, true, true, true, true, true, true, true, true, true, true, true, true, true, true, true, true, true, true, true, true, true, true, true, true, true, true, true] R1 _ mu1 HR1.out ?_ ?_
  · exact ⟨0, rfl, Nat.zero_le _, Later.refl _, fun j _ hj => by omega⟩
  intro us1 wx hrel
  obtain ⟨n, h7, hn, hL, hno⟩ := hrel
  simp only [frameOf, Nat.reduceAdd, h7]
  have Hh7 := hid h7; clear h7
  have HL := hid hL; have HNO := hid hno; have HN := hid hn
  have HLW := hid (Later.trans _ _ _ HL0.out hL)
  clear hL hno hn
  have c2 := cell_obj (i := 2) (HLW.out.obj HH.out.obj) (v := .slice va ks.length vc) rfl
  by_cases hlt : n < ks.length
  case neg =>
    have hne : n = ks.length := by have := HN.out; omega
    subst hne
    go_wp2_with fail
    go_ret
    exact ⟨-1, rfl, HLW.out, .inl ⟨rfl, fun x hx => by obtain ⟨j, hj, rfl⟩ := List.getElem_of_mem hx; exact HNO.out j hj hj⟩⟩
  have HLT := hid hlt
  obtain ⟨g, rfl, -, q0, q1, q2, q3, -⟩ := OwnC.cells (HH.out.own) hlt
  have hheld := HH.out.held _ (List.getElem_mem hlt)
  generalize hx : ks[n] = x at q0 q1 q2 q3 hheld
  have HXE : Hid (∀ p, ks[n]'p = x) := hid fun _ => hx
  obtain ⟨⟨xk, ⟨x1, x2⟩, xd⟩, xv, dv⟩ := x
  simp only at q0 q1 q2 q3
  have HXV : Hid (IsVals w xv xk) := hid (hheld.1.vals_mono fun _ _ => trivial)
  obtain ⟨xa, xc, rfl, -⟩ := id HXV.out
  have Q1 := hid q1; have Q2 := hid q2
  replace q0 := HLW.out.cell q0
  clear q1 q2 q3 hx hheld
  have hn63 : (n : Int) < ks.length := by omega
  go_wp2_with fail
  refine (same_vals xk key _ _ _ (HXV.out.later HLW.out) (HV.out.later HLW.out)).mono ?_
  rintro e w2 ⟨rfl, hL2⟩
  have HL2 := hid (Later.trans _ _ _ HL.out hL2)
  have HLW2 := hid (Later.trans _ _ _ HLW.out hL2)
  clear q0 c2 hL2
  have c2 := cell_obj (i := 2) (HLW2.out.obj HH.out.obj) (v := .slice (some ⟨g, 0, none⟩) ks.length vc) rfl
  have q1 := HLW2.out.cell Q1.out
  have q2 := HLW2.out.cell Q2.out
  have b0 := cell_obj (i := 0) (HL2.out.obj HT0.out) (v := .int .i64 f) rfl
  have b1 := cell_obj (i := 1) (HL2.out.obj HT0.out) (v := .int .i64 t) rfl
  have hsame : sameV xk key = decide (xk = key) := by
    cases h : sameV xk key with
    | true => exact (decide_eq_true (sameV_eq.1 h)).symm
    | false => refine (decide_eq_false fun e => ?_).symm; rw [sameV_eq.2 e] at h; cases h
  rw [hsame]
  clear hsame
  have hn2 : (n : Int) + 1 ≤ 9223372036854775807 := by have := HKL.out; omega
  have HNEXT : Hid (¬ (xk = key ∧ x1 = f ∧ x2 = t) → ∀ j (h : j < ks.length), j < n + 1 → idC ks[j].cell ≠ ((f, t), key)) := hid fun hne j hj hj1 e => by
    rcases Nat.lt_succ_iff_lt_or_eq.1 hj1 with h1 | rfl
    · exact HNO.out j hj h1 e
    · rw [HXE.out hj] at e
      simp only [idC, Prod.mk.injEq] at e
      exact hne ⟨e.2, e.1.1, e.1.2⟩
  go_wp2_with fail
  refine wp_region_lex (by kernel_rfl) (by kernel_rfl) Later Later.refl Later.trans (fun _ => none) (fun _ _ _ _ _ h => by cases h) ?_
  simp only [numbered, Nat.reduceAdd]
  by_cases hk : xk = key
  · have hd : decide (xk = key) = true := decide_eq_true hk
    rw [hd]
    clear hd
    have HW := hid hk
    clear hk
    refine LexS.out ?_
    by_cases hw1 : x1 = f
    · by_cases hw2 : x2 = t
      · have HID : Hid (∀ p, idC (ks[n]'p).cell = ((f, t), key)) := hid fun p => by rw [HXE.out p, ← hw1, ← hw2, ← HW.out]; rfl
        subst hw1 hw2
        clear HNEXT
        iterate 13
          first
          | (refine LexS.skip rfl ?_; simp only [Act.put, List.setIfInBounds_toArray, List.set])
          | (refine LexS.one' rfl rfl ?_
             apply Exists.intro
             refine ⟨fun w hR hF => ?_, ?_⟩
             · have hP := hR
               repeat (first | replace hP := Later.of_drew hP | replace hP := Later.of_drewN hP | replace hP := Later.of_alloc hP)
               have hcs := hR.cells
               have zc2 := hP.cell c2
               have zq1 := hP.cell q1
               have zq2 := hP.cell q2
               have zb0 := hP.cell b0
               have zb1 := hP.cell b1
               clear hR hF hP
               go_simp
               first | done | rfl
             simp only [Act.put, List.setIfInBounds_toArray, List.set])
        refine LexS.nil ?_
        intro w3 hR3 hF9
        clear hF9
        repeat (first | replace hR3 := Later.of_drew hR3 | replace hR3 := Later.of_drewN hR3 | replace hR3 := Later.of_alloc hR3)
        go_wp2_with fail
        go_ret
        exact ⟨n, rfl, Later.trans _ _ _ HLW2.out hR3, .inr ⟨n, HLT.out, rfl, HID.out _⟩⟩
      · have HN2 := hid (HNEXT.out fun h => hw2 h.2.2)
        subst hw1
        clear HNEXT
        iterate 13
          first
          | (refine LexS.skip rfl ?_; simp only [Act.put, List.setIfInBounds_toArray, List.set])
          | (refine LexS.one' rfl rfl ?_
             apply Exists.intro
             refine ⟨fun w hR hF => ?_, ?_⟩
             · have hP := hR
               repeat (first | replace hP := Later.of_drew hP | replace hP := Later.of_drewN hP | replace hP := Later.of_alloc hP)
               have hcs := hR.cells
               have zc2 := hP.cell c2
               have zq1 := hP.cell q1
               have zq2 := hP.cell q2
               have zb0 := hP.cell b0
               have zb1 := hP.cell b1
               clear hR hF hP
               go_simp
               first | done | rfl
             simp only [Act.put, List.setIfInBounds_toArray, List.set])
        refine LexS.nil ?_
        intro w3 hR3 hF9
        clear hF9
        repeat (first | replace hR3 := Later.of_drew hR3 | replace hR3 := Later.of_drewN hR3 | replace hR3 := Later.of_alloc hR3)
        go_wp2_with fail
        refine Round.mk' HR1.out Hmu1.out rfl ?_ ?_
        · exact ⟨n + 1, by show Value.int .i64 ((n : Int) + 1) = _; rw [Int.natCast_add]; rfl, HLT.out, Later.trans _ _ _ HL2.out hR3, HN2.out⟩
        · show ks.length - (intOf (.int .i64 ((n : Int) + 1))).toNat < ks.length - (intOf (us1 7)).toNat
          rw [Hh7.out]
          have := HLT.out
          simp only [intOf]
          omega
    · have HN2 := hid (HNEXT.out fun h => hw1 h.2.1)
      clear HNEXT
      iterate 13
        first
        | (refine LexS.skip rfl ?_; simp only [Act.put, List.setIfInBounds_toArray, List.set])
        | (refine LexS.one' rfl rfl ?_
           apply Exists.intro
           refine ⟨fun w hR hF => ?_, ?_⟩
           · have hP := hR
             repeat (first | replace hP := Later.of_drew hP | replace hP := Later.of_drewN hP | replace hP := Later.of_alloc hP)
             have hcs := hR.cells
             have zc2 := hP.cell c2
             have zq1 := hP.cell q1
             have zq2 := hP.cell q2
             have zb0 := hP.cell b0
             have zb1 := hP.cell b1
             clear hR hF hP
             go_simp
             first | done | rfl
           simp only [Act.put, List.setIfInBounds_toArray, List.set])
      refine LexS.nil ?_
      intro w3 hR3 hF9
      clear hF9
      repeat (first | replace hR3 := Later.of_drew hR3 | replace hR3 := Later.of_drewN hR3 | replace hR3 := Later.of_alloc hR3)
      go_wp2_with fail
      refine Round.mk' HR1.out Hmu1.out rfl ?_ ?_
      · exact ⟨n + 1, by show Value.int .i64 ((n : Int) + 1) = _; rw [Int.natCast_add]; rfl, HLT.out, Later.trans _ _ _ HL2.out hR3, HN2.out⟩
      · show ks.length - (intOf (.int .i64 ((n : Int) + 1))).toNat < ks.length - (intOf (us1 7)).toNat
        rw [Hh7.out]
        have := HLT.out
        simp only [intOf]
        omega
  · have hd : decide (xk = key) = false := decide_eq_false hk
    rw [hd]
    have HN2 := hid (HNEXT.out fun h => hk h.1)
    clear hd HNEXT hk
    refine LexS.out ?_
    iterate 13
      first
      | (refine LexS.skip rfl ?_; simp only [Act.put, List.setIfInBounds_toArray, List.set])
      | (refine LexS.one' rfl rfl ?_
         apply Exists.intro
         refine ⟨fun w hR hF => ?_, ?_⟩
         · have hP := hR
           repeat (first | replace hP := Later.of_drew hP | replace hP := Later.of_drewN hP | replace hP := Later.of_alloc hP)
           have hcs := hR.cells
           clear hR hF hP
           go_simp
           first | done | rfl
         simp only [Act.put, List.setIfInBounds_toArray, List.set])
    refine LexS.nil ?_
    intro w3 hR3 hF9
    clear hF9
    repeat (first | replace hR3 := Later.of_drew hR3 | replace hR3 := Later.of_drewN hR3 | replace hR3 := Later.of_alloc hR3)
    go_wp2_with fail
    refine Round.mk' HR1.out Hmu1.out rfl ?_ ?_
    · exact ⟨n + 1, by show Value.int .i64 ((n : Int) + 1) = _; rw [Int.natCast_add]; rfl, HLT.out, Later.trans _ _ _ HL2.out hR3, HN2.out⟩
    · show ks.length - (intOf (.int .i64 ((n : Int) + 1))).toNat < ks.length - (intOf (us1 7)).toNat
      rw [Hh7.out]
      have := HLT.out
      simp only [intOf]
      omega
end Go.Proofs.YtgcnchmnciihnaaGreatDoor
