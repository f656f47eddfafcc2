/-
  PROVED HERE: streamwrightlaw1.ValueReads walked: it returns true.
-/
import Derived.Test.YtcmpjdnbjhkhdaaDoorRefReadV
import Derived.Test.YtcmpjdnbjhkhdaaDoorTold
import Derived.Test.YtcmpjdnbjhkhdaaDoorEqSelf
namespace Go.Proofs.YtcmpjdnbjhkhdaaDoor
set_option linter.unusedSimpArgs false
set_option linter.unusedVariables false
open Go.RowKit

attribute [local go_sem high] run_eql_val' run_neq_val'
set_option maxRecDepth 100000 in
set_option maxHeartbeats 2000000 in
theorem vreads_walk (l : List UInt8) (w : World) (hs : l.length ≤ 140737488351232) (hE : ErrVars w) (ht : PowTab w) (hg : Laid w) : Calls Tryd.prog 7 #[.string (strB l)] w fun e w' => e = .returned (.bool true) ∧ Later w w' := by
  have HS := hid hs; have HE := hid hE; have HT := hid ht; have HG := hid hg
  clear hs hE ht hg
  go_enter Tryd.func7, Tryd.ntmps7
  go_wp2_with fail
  refine (vread_any l w HS.out HE.out HT.out).mono ?_
  rintro e w1 ⟨hL1, rfl⟩
  have HL1 := hid hL1
  have HSAME := hid (read_same l)
  clear hL1
  cases hr : readP l with
  | some x =>
    have HR : Hid (readR l = some x) := hid (by rw [← HSAME.out, hr])
    clear hr HSAME
    simp only [Option.getD_some, Option.isSome_some, if_true]
    obtain ⟨k, n, t⟩ := x
    go_wp2_with fail
    obtain ⟨w2, hw2⟩ : ∃ w2, w2 = w1.alloc (.cells #[.int .i64 k, .int .i64 n, .string t] 25 (0, 0)) := ⟨_, rfl⟩
    obtain ⟨R, hR⟩ : ∃ R, R = w1.heap.size := ⟨_, rfl⟩
    have HL2 : Hid (Later w w2) := hid (by rw [hw2]; exact Later.trans _ _ _ HL1.out (Later.alloc _ _))
    have HR2 : Hid (VObj w2 R ⟨k, n, t⟩) := hid (by rw [hw2, hR]; exact obj_new _ _)
    rw [← hw2, ← hR]
    clear hw2 hR
    refine (rvread_any l w2 HS.out).mono ?_
    rintro e w3 ⟨hL3, rfl⟩
    have HL3 := hid (Later.trans _ _ _ HL2.out hL3)
    have HR3 := hid (HR2.out.later hL3)
    rw [HR.out]
    simp only [Option.getD_some, Option.isSome_some]
    clear hL3 HL2 HR2
    go_wp2_with fail
    obtain ⟨w4, hw4⟩ : ∃ w4, w4 = w3.alloc (.cells #[.int .i64 k, .int .i64 n, .string t] 25 (0, 0)) := ⟨_, rfl⟩
    obtain ⟨S, hS⟩ : ∃ S, S = w3.heap.size := ⟨_, rfl⟩
    have HL4 : Hid (Later w w4) := hid (by rw [hw4]; exact Later.trans _ _ _ HL3.out (Later.alloc _ _))
    have HR4 : Hid (VObj w4 R ⟨k, n, t⟩) := hid (by rw [hw4]; exact HR3.out.later (Later.alloc _ _))
    have HS4 : Hid (VObj w4 S ⟨k, n, t⟩) := hid (by rw [hw4, hS]; exact obj_new _ _)
    rw [← hw4, ← hS]
    clear hw4 hS
    refine (told_nil w4).mono ?_
    rintro e w5 ⟨rfl, hL5⟩
    have HL5 := hid (Later.trans _ _ _ HL4.out hL5)
    have HR5 := hid (HR4.out.later hL5)
    have HS5 := hid (HS4.out.later hL5)
    have r0 := HR5.out.c0; have r1 := HR5.out.c1; have r2 := HR5.out.c2
    have s0 := HS5.out.c0; have s1 := HS5.out.c1; have s2 := HS5.out.c2
    have hr := cell_lt r0; have hs := cell_lt s0
    clear hL5
    go_wp2_with fail
    go_ret
    exact ⟨ret_bool (eqv_refl _), HL5.out⟩
  | none =>
    have HR : Hid (readR l = none) := hid (by rw [← HSAME.out, hr])
    clear hr HSAME
    simp only [Option.getD_none, Option.isSome_none, Bool.false_eq_true, if_false]
    unfold readE nothing
    go_wp2_with fail
    obtain ⟨w2, hw2⟩ : ∃ w2, w2 = w1.alloc (.cells #[.int .i64 0, .int .i64 0, .string ByteArray.empty] 25 (0, 0)) := ⟨_, rfl⟩
    obtain ⟨R, hR⟩ : ∃ R, R = w1.heap.size := ⟨_, rfl⟩
    have HL2 : Hid (Later w w2) := hid (by rw [hw2]; exact Later.trans _ _ _ HL1.out (Later.alloc _ _))
    have HR2 : Hid (VObj w2 R nothing) := hid (by rw [hw2, hR]; exact obj_new _ _)
    rw [← hw2, ← hR]
    clear hw2 hR
    refine (rvread_any l w2 HS.out).mono ?_
    rintro e w3 ⟨hL3, rfl⟩
    have HL3 := hid (Later.trans _ _ _ HL2.out hL3)
    have HR3 := hid (HR2.out.later hL3)
    rw [HR.out]
    simp only [Option.getD_none, Option.isSome_none]
    unfold nothing
    clear hL3 HL2 HR2
    go_wp2_with fail
    obtain ⟨w4, hw4⟩ : ∃ w4, w4 = w3.alloc (.cells #[.int .i64 0, .int .i64 0, .string ByteArray.empty] 25 (0, 0)) := ⟨_, rfl⟩
    obtain ⟨S, hS⟩ : ∃ S, S = w3.heap.size := ⟨_, rfl⟩
    have HL4 : Hid (Later w w4) := hid (by rw [hw4]; exact Later.trans _ _ _ HL3.out (Later.alloc _ _))
    have HR4 : Hid (VObj w4 R nothing) := hid (by rw [hw4]; exact HR3.out.later (Later.alloc _ _))
    rw [← hw4, ← hS]
    clear hw4 hS
    refine (told_errno 1 w4 (HG.out.later HL4.out)).mono ?_
    rintro e w5 ⟨rfl, hL5⟩
    have HL5 := hid (Later.trans _ _ _ HL4.out hL5)
    have HR5 := hid (HR4.out.later hL5)
    have r0 : w5.cell? ⟨R, 0, none⟩ = some (.int .i64 0) := HR5.out.c0
    have r1 : w5.cell? ⟨R, 1, none⟩ = some (.int .i64 0) := HR5.out.c1
    have r2 : w5.cell? ⟨R, 2, none⟩ = some (.string ByteArray.empty) := HR5.out.c2
    have hr := cell_lt r0
    clear hL5
    go_wp2_with fail
    go_ret
    exact ⟨ret_bool (eqv_refl _), HL5.out⟩
theorem vreads_str (s : ByteArray) (w : World) (hs : s.data.toList.length ≤ 140737488351232) (hE : ErrVars w) (ht : PowTab w) (hg : Laid w) : Calls Tryd.prog 7 #[.string s] w fun e w' => e = .returned (.bool true) ∧ Later w w' := by
  have h := vreads_walk s.data.toList w hs hE ht hg
  rwa [strB_data] at h
end Go.Proofs.YtcmpjdnbjhkhdaaDoor
