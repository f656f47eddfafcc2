/-
  PROVED HERE: the contracts of the document's Same and Copy.
-/
import Derived.Test.YtbabfibmopfghaaGreatDoorClone
import Derived.Test.YtbabfibmopfghaaGreatDoorRet
import Derived.Test.YtbabfibmopfghaaGreatDoorLexS
namespace Go.Proofs.YtbabfibmopfghaaGreatDoor
set_option linter.unusedSimpArgs false
set_option linter.unusedVariables false
open Go.RowKit

theorem run_neq_fields (w : World) (k n k' n' : Int) (t t' : ByteArray) : (binOp .neq 62 (.agg #[.int .i64 k, .int .i64 n, .string t]) (.agg #[.int .i64 k', .int .i64 n', .string t'])).run Tryz.prog w = .ok (.bool (!eqV ⟨k, n, t⟩ ⟨k', n', t'⟩)) w := by
  unfold eqV valEq str
  go_simp
  by_cases h1 : k = k' <;> by_cases h2 : n = n' <;> by_cases h3 : t.toList = t'.toList <;> simp [h1, h2, h3]
attribute [local go_sem high] run_neq_fields

/-- are two lists of values the same? -/
def sameV : List Val → List Val → Bool
  | [], [] => true
  | x :: a, y :: b => eqV x y && sameV a b
  | _, _ => false
theorem sameV_refl : ∀ a, sameV a a = true
  | [] => rfl
  | x :: a => by simp [sameV, sameV_refl a, eqV, valEq]
theorem sameV_len : ∀ a b, sameV a b = true → a.length = b.length
  | [], [], _ => rfl
  | x :: a, y :: b, h => by simp only [sameV, Bool.and_eq_true] at h; simp [sameV_len a b h.2]
  | [], _ :: _, h => by simp [sameV] at h
  | _ :: _, [], h => by simp [sameV] at h
def SameTo (w : World) (a b : List Val) (e : Ending) (w' : World) : Prop := e = .returned (.bool (sameV a b)) ∧ Later w w'

set_option maxRecDepth 100000 in
theorem same_vals (a b : List Val) (v u : Value) (w : World) (ha : IsVals w v a) (hb : IsVals w u b) :
    Calls Tryz.prog 16 #[v, u] w (SameTo w a b) := by
  obtain ⟨p, c, rfl, hac, hcm, -, hea⟩ := ha
  obtain ⟨q, d, rfl, hbd, hdm, -, heb⟩ := hb
  unfold maxLen at hcm hdm
  have HA := hid hea; have HB := hid heb; clear hea heb
  by_cases h0 : a.length = b.length
  · have HL := hid h0
    have hd0 : ((a.length : Int) != b.length) = false := by simp [h0]
    clear h0
    go_enter Tryz.func16, Tryz.ntmps16
    go_wp2
    go_loopw [5] (fun i wr => ∃ n : Nat, n ≤ a.length ∧ i = .int .i64 n ∧ Later w wr ∧ Hid (sameV a b = sameV (a.drop n) (b.drop n))) (fun i _ => a.length - (intOf i).toNat)
    case atStart => exact ⟨0, by omega, rfl, Later.refl _, rfl⟩
    case round =>
      obtain ⟨n, hn1, rfl, hL, hq⟩ := hrel
      have HL9 := hid hL
      clear hL
      by_cases h1 : n < a.length
      · have h2 : n < b.length := by have := HL.out; omega
        obtain ⟨b1, o1, rfl, -, e1⟩ := HA.out n h1
        obtain ⟨p1, p2, p3⟩ := e1.later HL9.out
        obtain ⟨b2, o2, rfl, -, e2⟩ := HB.out n h2
        obtain ⟨q1, q2, q3⟩ := e2.later HL9.out
        clear e1 e2
        have HD1 : Hid (a.drop n = a[n] :: a.drop (n + 1)) := hid (List.drop_eq_getElem_cons h1)
        have HD2 : Hid (b.drop n = b[n] :: b.drop (n + 1)) := hid (List.drop_eq_getElem_cons h2)
        have hnn : (0 : Int) ≤ n := by omega
        generalize hx : a[n] = x at *
        generalize hy : b[n] = y at *
        clear hx hy
        obtain ⟨k, m, t⟩ := x
        obtain ⟨k', m', t'⟩ := y
        simp only at p1 p2 p3 q1 q2 q3
        cases hc : eqV ⟨k, m, t⟩ ⟨k', m', t'⟩ with
        | true =>
          have HS : Hid (sameV a b = sameV (a.drop (n + 1)) (b.drop (n + 1))) := hid (hq.out.trans (by rw [HD1.out, HD2.out]; simp [sameV, hc]))
          clear hq
          go_wp2
          refine wp_region_lex (by kernel_rfl) (by kernel_rfl) Later Later.refl Later.trans (fun _ => none) (fun _ _ _ _ _ h => by cases h) ?_
          simp only [numbered, Nat.reduceAdd]
          iterate 9
            first
            | (refine Lex.skip rfl ?_; simp only [Act.put, List.setIfInBounds_toArray, List.set])
            | (refine Lex.one' rfl rfl ?_
               apply Exists.intro
               refine ⟨fun w hR hF => ?_, ?_⟩
               · have hP := hR
                 repeat (first | replace hP := Later.of_drew hP | replace hP := Later.of_drewN hP | replace hP := Later.of_alloc hP)
                 have hcs := hR.cells
                 have zp1 := hP.cell p1
                 have zp2 := hP.cell p2
                 have zp3 := hP.cell p3
                 have zq1 := hP.cell q1
                 have zq2 := hP.cell q2
                 have zq3 := hP.cell q3
                 clear hR hF hP
                 go_simp
                 first | done | rfl
               simp only [Act.put, List.setIfInBounds_toArray, List.set])
          intro w1 hR1 hF9
          clear hF9
          repeat (first | replace hR1 := Later.of_drew hR1 | replace hR1 := Later.of_drewN hR1 | replace hR1 := Later.of_alloc hR1)
          clear p1 p2 p3 q1 q2 q3
          go_wp2
          go_roundw
          case rel => exact ⟨n + 1, by omega, by go_num, Later.trans _ _ _ HL9.out hR1, HS⟩
          case measure => simp [intOf]; omega
        | false =>
          have HS : Hid (sameV a b = false) := hid (hq.out.trans (by rw [HD1.out, HD2.out]; simp [sameV, hc]))
          clear hq
          go_wp2
          refine wp_region_lex (by kernel_rfl) (by kernel_rfl) Later Later.refl Later.trans (fun _ => none) (fun _ _ _ _ _ h => by cases h) ?_
          simp only [numbered, Nat.reduceAdd]
          iterate 9
            first
            | (refine Lex.skip rfl ?_; simp only [Act.put, List.setIfInBounds_toArray, List.set])
            | (refine Lex.one' rfl rfl ?_
               apply Exists.intro
               refine ⟨fun w hR hF => ?_, ?_⟩
               · have hP := hR
                 repeat (first | replace hP := Later.of_drew hP | replace hP := Later.of_drewN hP | replace hP := Later.of_alloc hP)
                 have hcs := hR.cells
                 have zp1 := hP.cell p1
                 have zp2 := hP.cell p2
                 have zp3 := hP.cell p3
                 have zq1 := hP.cell q1
                 have zq2 := hP.cell q2
                 have zq3 := hP.cell q3
                 clear hR hF hP
                 go_simp
                 first | done | rfl
               simp only [Act.put, List.setIfInBounds_toArray, List.set])
          intro w1 hR1 hF9
          clear hF9
          repeat (first | replace hR1 := Later.of_drew hR1 | replace hR1 := Later.of_drewN hR1 | replace hR1 := Later.of_alloc hR1)
          clear p1 p2 p3 q1 q2 q3
          go_wp2
          go_ret
          exact ⟨ret_bool HS.out.symm, Later.trans _ _ _ HL9.out hR1⟩
      · have hn : n = a.length := by omega
        have HS : Hid (sameV a b = true) := hid (hq.out.trans (by have := HL.out; rw [List.drop_of_length_le (by omega), List.drop_of_length_le (by omega)]; rfl))
        clear hq
        go_wp2
        go_ret
        exact ⟨ret_bool HS.out.symm, HL9.out⟩
  · have HS : Hid (sameV a b = false) := hid (by
      cases h : sameV a b with
      | false => rfl
      | true => exact absurd (sameV_len a b h) h0)
    have hd0 : ((a.length : Int) != b.length) = true := by simp; omega
    clear h0
    go_enter Tryz.func16, Tryz.ntmps16
    go_wp2
    go_ret
    exact ⟨ret_bool HS.out.symm, Later.refl _⟩
end Go.Proofs.YtbabfibmopfghaaGreatDoor
