/-
  PROVED HERE: the contracts of the document's In, of the law's same.
-/
import Derived.Test.YthfgjmdmcoogpaaDoorWinPlain
import Derived.Test.YthfgjmdmcoogpaaDoorWinValid
import Derived.Test.YthfgjmdmcoogpaaDoorCopy
import Derived.Test.YthfgjmdmcoogpaaDoorLexS
namespace Go.Proofs.YthfgjmdmcoogpaaDoor
set_option linter.unusedSimpArgs false
set_option linter.unusedVariables false
open Go.RowKit

theorem infoWin : (Tryd.prog.info? 149).map (fun i => (i.zero, i.size, i.bytes)) = some (some (.agg #[.int .i64 0, .int .i64 0]), 2, 16) := by kernel_rfl
theorem infoWn : ElemInfo Tryd.prog 149 2 16 := ElemInfo.of infoWin rfl (by decide)
theorem win_one (x : Win) : ∀ u ∈ [Value.int .i64 x.1, .int .i64 x.2], u.oneCell' = true := by
  intro u hu
  simp only [List.mem_cons, List.not_mem_nil, or_false] at hu
  rcases hu with rfl | rfl <;> rfl
theorem wrap64_r {n : Int} (h : -9223372036854775808 ≤ n ∧ n ≤ 9223372036854775807) : wrap64 n = n := by unfold wrap64; omega
theorem owned_new3 (w : World) (o1 : Obj) (x y : Int) (e : TypeId) : ((w.alloc o1).alloc (.cells #[.int .i64 x, .int .i64 y] e (0, 0))).ownsRow w.heap.size e 2 (.slice (some ⟨w.heap.size + 1, 0, none⟩) 1 1) [(x, y)].length (winCells [(x, y)]) := by
  have h := obj_new (w.alloc o1) (.cells #[.int .i64 x, .int .i64 y] e (0, 0))
  rw [World.size_alloc] at h
  exact ⟨rfl, .inr ⟨w.heap.size + 1, 1, _, rfl, Nat.le_succ _, h, Nat.le_refl _, by unfold maxLen; omega, rfl, rfl⟩⟩
def WinsTo (w : World) (l : List Win) (e : Ending) (w' : World) : Prop := ∃ v, e = .returned v ∧ w'.ownsRow w.heap.size 149 2 v l.length (winCells l) ∧ Later w w'

set_option maxRecDepth 100000 in
set_option maxHeartbeats 4000000 in
theorem rin_step (s p t : Int) (w : World) (hs : 1 ≤ s ∧ s ≤ 1048576) (hp : 1 ≤ p ∧ p ≤ s ∧ s / p ≤ 64) (ht : 0 ≤ t ∧ t ≤ 1099511627776) :
    Calls Tryd.prog 47 #[.agg #[.int .i64 2, .int .i64 s, .int .i64 p], .int .i64 t] w (WinsTo w (winL t s p (winJ t s p + 1))) := by
  have HS := hid hs; have HP := hid hp; have HT := hid ht
  have HJ := hid (winJ_le (t := t) (by omega) hp.2.1 hp.2.2)
  obtain ⟨J, hJ⟩ : ∃ J, J = winJ t s p := ⟨_, rfl⟩
  have HJE := hid hJ
  rw [← hJ] at HJ ⊢
  clear hJ hs hp ht
  go_enter Tryd.func47, Tryd.ntmps47
  go_wp2_with fail
  obtain ⟨w1, hw1⟩ : ∃ w1, w1 = w.alloc (.cells #[.int .i64 2, .int .i64 s, .int .i64 p] 93 (0, 0)) := ⟨_, rfl⟩
  have HL1 : Hid (Later w w1) := hid (by rw [hw1]; exact Later.alloc _ _)
  obtain ⟨X, hX⟩ : ∃ X, X = w.heap.size := ⟨_, rfl⟩
  have HX1 : Hid (w1.heap[X]? = some (.cells #[.int .i64 2, .int .i64 s, .int .i64 p] 93 (0, 0))) := hid (by rw [hw1, hX]; exact obj_new _ _)
  rw [← hX, ← hw1]
  clear hX hw1
  obtain ⟨R1, hR1⟩ : ∃ RR_ : (Nat → Value) → World → Prop, RR_ = (fun us wx => ∃ (c : Int) (n : Nat) (a : Option Addr) (cp : Nat), us 7 = .int .i64 c ∧ us 5 = .slice a n cp ∧ -70 ≤ c ∧ c ≤ 2 ∧ Later w1 wx ∧ wx.ownsRow w1.heap.size 149 2 (.slice a n cp) n (winCells (winL t s p n)) ∧ (c ≤ -J → n = 0) ∧ (-J ≤ c → c ≤ 1 → (n : Int) = c + J) ∧ (1 ≤ c → n = J + 1)) := ⟨_, rfl⟩
  obtain ⟨mu1, hmu1⟩ : ∃ mu : (Nat → Value) → World → Nat, mu = (fun us _ => (2 - intOf (us 7)).toNat) := ⟨_, rfl⟩
  have HR1 := hid hR1; have Hmu1 := hid hmu1; clear hR1 hmu1
  refine wp_loop_frame' [false, false, false, false, false, true, false, true, true, false, false, false, false, false, false, false, false, false, false, false, false, false, false, false, false, false, false, false, false, false, false, true, true, true, true, true, true, true, true, true, true, true, true, true, true, true, true, true, true, true, true, true, true, true, true, true, true, true, true, true, true, true] R1 _ mu1 HR1.out ?_ ?_
  · exact ⟨-70, 0, none, 0, rfl, rfl, by omega, by omega, Later.refl _, ⟨rfl, .inl ⟨rfl, rfl⟩⟩, fun _ => rfl, fun h => by have := HJ.out; omega, fun h => by omega⟩
  intro us1 wx hrel
  obtain ⟨c, n, a, cp, h7, h5, hc1, hc2, hL, ho, hn1, hn2, hn3⟩ := hrel
  simp only [frameOf, Nat.reduceAdd, h7, h5]
  have Hh7 := hid h7; clear h7
  have Hh5 := hid h5; clear h5
  have HC := hid (And.intro hc1 hc2)
  have HL := hid hL
  have HO := hid ho
  have HN1 := hid hn1; have HN2 := hid hn2; have HN3 := hid hn3
  clear hc1 hc2 hL ho hn1 hn2 hn3
  by_cases hcl : c ≤ 1
  · have hobj := HL.out.obj HX1.out
    have x1 := cell_obj (i := 1) hobj rfl
    clear hobj
    have hp0 : 0 < p := by have := HP.out; omega
    have hpn : ¬ p = 0 := by omega
    have hqr := quot_range (t := t) hp0 HT.out.1 HT.out.2
    obtain ⟨A, hA⟩ : ∃ A, A = stepA t p c := ⟨_, rfl⟩
    have hAr := stepA_range (t := t) (i := c) hp0 (by have := HP.out; have := HS.out; omega) HT.out.1 HT.out.2 (by have := HC.out; omega) (by have := HC.out; omega)
    have hq : wrap64 (wrap64 (wrap64 (t.tdiv p) + c) * p) = A := by
      rw [Int.tdiv_eq_ediv_of_nonneg HT.out.1, wrap64_r (n := t / p) (by omega), wrap64_r (n := t / p + c) (by have := HC.out; omega)]
      show wrap64 (stepA t p c) = A
      rw [wrap64_r (by omega), hA]
    have hle := stepA_le (t := t) hp0 c
    have hin := stepA_in (t := t) hp0 (HP.out.2.1) c
    rw [← hA] at hAr hle hin
    rw [← HJE.out] at hin
    have hws : wrap64 (A + s) = A + s := wrap64_r (by have := HS.out; omega)
    have hwc : wrap64 (c + 1) = c + 1 := wrap64_r (by have := HC.out; omega)
    have HAA := hid hA; have HAR := hid hAr; have HLE := hid hle; have HIN := hid hin
    clear hA hAr hle hin hqr
    go_upto_region 14 with (fail)
    simp only [hq]
    clear hq
    by_cases h0 : c ≤ 0
    · have d1 : A ≤ t := HLE.out.2 h0
      by_cases hj : -(J : Int) ≤ c
      · have d2 : t < A + s := by have := HIN.out.2 hj; omega
        have hnc : (n : Int) = c + J := HN2.out hj hcl
        have HW : Hid (winL t s p (n + 1) = winL t s p n ++ [(A, A + s)]) := hid (by
          rw [winL_succ]
          have : (n : Int) - winJ t s p = c := by rw [← HJE.out]; omega
          unfold winA
          rw [this, ← HAA.out])
        have HNC := hid hnc
        have hnj : n ≤ J := by omega
        have HNJ := hid hnj
        clear hnc hnj
        go_wp2_with (at_builtin; go_loud (refine wpList_append_obj rfl _ _ 94 rfl 149 2 16 Tryd.underlying94 infoWn rfl (own_later HO.out (Later.alloc _ _)) (news := [.int .i64 A, .int .i64 (A + s)]) rfl (obj_at (by simp)) rfl (win_one (A, A + s)) ?c1 ?c2 ?c3 ?_))
        case c1 => have := HJ.out; have := HNJ.out; omega
        case c2 => have := HJ.out; have := HNJ.out; unfold maxLen; omega
        case c3 => have := HL.out.size; simp only [World.size_alloc]; omega
        intro v7 w7 hA7
        have hlow := hA7.low (own_later HO.out (Later.alloc wx (.cells #[.int .i64 A, .int .i64 (A + s)] 149 (0, 0))))
        have hL7 : Later w1 w7 := ((((Later.trans _ _ _ HL.out (Later.alloc wx _)).keeps (fun b => b < w1.heap.size)).trans hlow).mono (S' := fun _ => True) fun _ hk _ => hk).later
        obtain ⟨a7, c7, rfl⟩ := ownsRow_slice hA7.own
        have HO7 := hid hA7.own
        have HL7 := hid hL7
        clear hA7 hlow hL7 x1
        go_wp2_with fail
        try simp only [hwc]
        refine Round.mk' HR1.out Hmu1.out rfl ?_ ?_
        · exact ⟨c + 1, n + 1, a7, c7, rfl, rfl, by have := HC.out; omega, by omega, HL7.out, by rw [HW.out, winCells_snoc]; exact HO7.out, fun h => by omega, fun _ _ => by have := HNC.out; omega, fun h => by have := HNC.out; omega⟩
        · rw [Hh7.out]; simp [intOf, slots]; omega
      · have d2 : ¬ t < A + s := by have := HIN.out; omega
        have d2' : A + s ≤ t := by omega
        go_wp2_with fail
        try simp only [hwc]
        refine Round.mk' HR1.out Hmu1.out rfl ?_ ?_
        · exact ⟨c + 1, n, a, cp, rfl, rfl, by have := HC.out; omega, by omega, HL.out, HO.out, fun h => HN1.out (by omega), fun h _ => by have := HN1.out (by omega); omega, fun h => by have := HN1.out (by omega); omega⟩
        · rw [Hh7.out]; simp [intOf, slots]; omega
    · obtain rfl : c = 1 := by omega
      have d1 : ¬ A ≤ t := fun h => h0 (HLE.out.1 h)
      have d1' : t < A := by omega
      have hn := HN3.out (by omega)
      have HNN := hid hn
      clear hn
      go_wp2_with fail
      try simp only [hwc]
      refine Round.mk' HR1.out Hmu1.out rfl ?_ ?_
      · exact ⟨2, n, a, cp, rfl, rfl, by omega, by omega, HL.out, HO.out, fun h => by omega, fun h h2 => by omega, fun _ => HNN.out⟩
      · rw [Hh7.out]; simp [intOf, slots]
  · obtain rfl : c = 2 := by have := HC.out; omega
    have hn : n = J + 1 := HN3.out (by omega)
    subst hn
    go_wp2_with fail
    go_ret
    refine ⟨_, rfl, ?_, Later.trans _ _ _ HL1.out HL.out⟩
    rw [winL_length]
    have := HO.out
    exact ⟨this.1, this.2.imp id fun ⟨g, cap, cur, h1, h2, h3⟩ => ⟨g, cap, cur, h1, Nat.le_trans HL1.out.size h2, h3⟩⟩
set_option maxRecDepth 100000 in
set_option maxHeartbeats 4000000 in
theorem rin_tumble (p t : Int) (w : World) (hs : 1 ≤ p ∧ p ≤ 1048576) (ht : 0 ≤ t ∧ t ≤ 1099511627776) :
    Calls Tryd.prog 47 #[.agg #[.int .i64 1, .int .i64 p, .int .i64 0], .int .i64 t] w (WinsTo w (winL t p p (winJ t p p + 1))) := by
  have hp : 1 ≤ p ∧ p ≤ p ∧ p / p ≤ 64 := ⟨hs.1, Int.le_refl _, by rw [Int.ediv_self (by omega)]; decide⟩
  have HS := hid hs; have HP := hid hp; have HT := hid ht
  have HJ := hid (winJ_le (t := t) (by omega) hp.2.1 hp.2.2)
  obtain ⟨J, hJ⟩ : ∃ J, J = winJ t p p := ⟨_, rfl⟩
  have HJE := hid hJ
  rw [← hJ] at HJ ⊢
  clear hJ hs hp ht
  go_enter Tryd.func47, Tryd.ntmps47
  go_wp2_with fail
  obtain ⟨w1, hw1⟩ : ∃ w1, w1 = w.alloc (.cells #[.int .i64 1, .int .i64 p, .int .i64 0] 93 (0, 0)) := ⟨_, rfl⟩
  have HL1 : Hid (Later w w1) := hid (by rw [hw1]; exact Later.alloc _ _)
  obtain ⟨X, hX⟩ : ∃ X, X = w.heap.size := ⟨_, rfl⟩
  have HX1 : Hid (w1.heap[X]? = some (.cells #[.int .i64 1, .int .i64 p, .int .i64 0] 93 (0, 0))) := hid (by rw [hw1, hX]; exact obj_new _ _)
  rw [← hX, ← hw1]
  clear hX hw1
  obtain ⟨R1, hR1⟩ : ∃ RR_ : (Nat → Value) → World → Prop, RR_ = (fun us wx => ∃ (c : Int) (n : Nat) (a : Option Addr) (cp : Nat), us 7 = .int .i64 c ∧ us 5 = .slice a n cp ∧ -70 ≤ c ∧ c ≤ 2 ∧ Later w1 wx ∧ wx.ownsRow w1.heap.size 149 2 (.slice a n cp) n (winCells (winL t p p n)) ∧ (c ≤ -J → n = 0) ∧ (-J ≤ c → c ≤ 1 → (n : Int) = c + J) ∧ (1 ≤ c → n = J + 1)) := ⟨_, rfl⟩
  obtain ⟨mu1, hmu1⟩ : ∃ mu : (Nat → Value) → World → Nat, mu = (fun us _ => (2 - intOf (us 7)).toNat) := ⟨_, rfl⟩
  have HR1 := hid hR1; have Hmu1 := hid hmu1; clear hR1 hmu1
  refine wp_loop_frame' [false, false, false, false, false, true, false, true, true, false, false, false, false, false, false, false, false, false, false, false, false, false, false, false, false, false, false, false, false, false, false, true, true, true, true, true, true, true, true, true, true, true, true, true, true, true, true, true, true, true, true, true, true, true, true, true, true, true, true, true, true, true] R1 _ mu1 HR1.out ?_ ?_
  · exact ⟨-70, 0, none, 0, rfl, rfl, by omega, by omega, Later.refl _, ⟨rfl, .inl ⟨rfl, rfl⟩⟩, fun _ => rfl, fun h => by have := HJ.out; omega, fun h => by omega⟩
  intro us1 wx hrel
  obtain ⟨c, n, a, cp, h7, h5, hc1, hc2, hL, ho, hn1, hn2, hn3⟩ := hrel
  simp only [frameOf, Nat.reduceAdd, h7, h5]
  have Hh7 := hid h7; clear h7
  have Hh5 := hid h5; clear h5
  have HC := hid (And.intro hc1 hc2)
  have HL := hid hL
  have HO := hid ho
  have HN1 := hid hn1; have HN2 := hid hn2; have HN3 := hid hn3
  clear hc1 hc2 hL ho hn1 hn2 hn3
  by_cases hcl : c ≤ 1
  · have hobj := HL.out.obj HX1.out
    have x1 := cell_obj (i := 1) hobj rfl
    clear hobj
    have hp0 : 0 < p := by have := HP.out; omega
    have hpn : ¬ p = 0 := by omega
    have hqr := quot_range (t := t) hp0 HT.out.1 HT.out.2
    obtain ⟨A, hA⟩ : ∃ A, A = stepA t p c := ⟨_, rfl⟩
    have hAr := stepA_range (t := t) (i := c) hp0 (by have := HP.out; have := HS.out; omega) HT.out.1 HT.out.2 (by have := HC.out; omega) (by have := HC.out; omega)
    have hq : wrap64 (wrap64 (wrap64 (t.tdiv p) + c) * p) = A := by
      rw [Int.tdiv_eq_ediv_of_nonneg HT.out.1, wrap64_r (n := t / p) (by omega), wrap64_r (n := t / p + c) (by have := HC.out; omega)]
      show wrap64 (stepA t p c) = A
      rw [wrap64_r (by omega), hA]
    have hle := stepA_le (t := t) hp0 c
    have hin := stepA_in (t := t) hp0 (HP.out.2.1) c
    rw [← hA] at hAr hle hin
    rw [← HJE.out] at hin
    have hws : wrap64 (A + p) = A + p := wrap64_r (by have := HS.out; omega)
    have hwc : wrap64 (c + 1) = c + 1 := wrap64_r (by have := HC.out; omega)
    have HAA := hid hA; have HAR := hid hAr; have HLE := hid hle; have HIN := hid hin
    clear hA hAr hle hin hqr
    go_upto_region 14 with (fail)
    simp only [hq]
    clear hq
    by_cases h0 : c ≤ 0
    · have d1 : A ≤ t := HLE.out.2 h0
      by_cases hj : -(J : Int) ≤ c
      · have d2 : t < A + p := by have := HIN.out.2 hj; omega
        have hnc : (n : Int) = c + J := HN2.out hj hcl
        have HW : Hid (winL t p p (n + 1) = winL t p p n ++ [(A, A + p)]) := hid (by
          rw [winL_succ]
          have : (n : Int) - winJ t p p = c := by rw [← HJE.out]; omega
          unfold winA
          rw [this, ← HAA.out])
        have HNC := hid hnc
        have hnj : n ≤ J := by omega
        have HNJ := hid hnj
        clear hnc hnj
        go_wp2_with (at_builtin; go_loud (refine wpList_append_obj rfl _ _ 94 rfl 149 2 16 Tryd.underlying94 infoWn rfl (own_later HO.out (Later.alloc _ _)) (news := [.int .i64 A, .int .i64 (A + p)]) rfl (obj_at (by simp)) rfl (win_one (A, A + p)) ?c1 ?c2 ?c3 ?_))
        case c1 => have := HJ.out; have := HNJ.out; omega
        case c2 => have := HJ.out; have := HNJ.out; unfold maxLen; omega
        case c3 => have := HL.out.size; simp only [World.size_alloc]; omega
        intro v7 w7 hA7
        have hlow := hA7.low (own_later HO.out (Later.alloc wx (.cells #[.int .i64 A, .int .i64 (A + p)] 149 (0, 0))))
        have hL7 : Later w1 w7 := ((((Later.trans _ _ _ HL.out (Later.alloc wx _)).keeps (fun b => b < w1.heap.size)).trans hlow).mono (S' := fun _ => True) fun _ hk _ => hk).later
        obtain ⟨a7, c7, rfl⟩ := ownsRow_slice hA7.own
        have HO7 := hid hA7.own
        have HL7 := hid hL7
        clear hA7 hlow hL7 x1
        go_wp2_with fail
        try simp only [hwc]
        refine Round.mk' HR1.out Hmu1.out rfl ?_ ?_
        · exact ⟨c + 1, n + 1, a7, c7, rfl, rfl, by have := HC.out; omega, by omega, HL7.out, by rw [HW.out, winCells_snoc]; exact HO7.out, fun h => by omega, fun _ _ => by have := HNC.out; omega, fun h => by have := HNC.out; omega⟩
        · rw [Hh7.out]; simp [intOf, slots]; omega
      · have d2 : ¬ t < A + p := by have := HIN.out; omega
        have d2' : A + p ≤ t := by omega
        go_wp2_with fail
        try simp only [hwc]
        refine Round.mk' HR1.out Hmu1.out rfl ?_ ?_
        · exact ⟨c + 1, n, a, cp, rfl, rfl, by have := HC.out; omega, by omega, HL.out, HO.out, fun h => HN1.out (by omega), fun h _ => by have := HN1.out (by omega); omega, fun h => by have := HN1.out (by omega); omega⟩
        · rw [Hh7.out]; simp [intOf, slots]; omega
    · obtain rfl : c = 1 := by omega
      have d1 : ¬ A ≤ t := fun h => h0 (HLE.out.1 h)
      have d1' : t < A := by omega
      have hn := HN3.out (by omega)
      have HNN := hid hn
      clear hn
      go_wp2_with fail
      try simp only [hwc]
      refine Round.mk' HR1.out Hmu1.out rfl ?_ ?_
      · exact ⟨2, n, a, cp, rfl, rfl, by omega, by omega, HL.out, HO.out, fun h => by omega, fun h h2 => by omega, fun _ => HNN.out⟩
      · rw [Hh7.out]; simp [intOf, slots]
  · obtain rfl : c = 2 := by have := HC.out; omega
    have hn : n = J + 1 := HN3.out (by omega)
    subst hn
    go_wp2_with fail
    go_ret
    refine ⟨_, rfl, ?_, Later.trans _ _ _ HL1.out HL.out⟩
    rw [winL_length]
    have := HO.out
    exact ⟨this.1, this.2.imp id fun ⟨g, cap, cur, h1, h2, h3⟩ => ⟨g, cap, cur, h1, Nat.le_trans HL1.out.size h2, h3⟩⟩

theorem rin_session (s t : Int) (w : World) (hs : 1 ≤ s ∧ s ≤ 1048576) (ht : 0 ≤ t ∧ t ≤ 1099511627776) :
    Calls Tryd.prog 47 #[.agg #[.int .i64 3, .int .i64 s, .int .i64 0], .int .i64 t] w (WinsTo w [(t, t + s)]) := by
  have hw : wrap64 (t + s) = t + s := wrap64_r (by omega)
  go_enter Tryd.func47, Tryd.ntmps47
  go_wp2_with fail
  go_ret
  try simp only [hw]
  exact ⟨_, rfl, owned_new3 _ _ _ _ _, Later.trans _ _ _ (Later.alloc _ _) (Later.alloc _ _)⟩
theorem rin_whole (t : Int) (w : World) :
    Calls Tryd.prog 47 #[.agg #[.int .i64 4, .int .i64 0, .int .i64 0], .int .i64 t] w (WinsTo w [(0, 1099511627777)]) := by
  go_enter Tryd.func47, Tryd.ntmps47
  go_wp2_with fail
  go_ret
  exact ⟨_, rfl, owned_new3 _ _ _ _ _, Later.trans _ _ _ (Later.alloc _ _) (Later.alloc _ _)⟩
theorem rin_any (k s p t : Int) (w : World) (hv : validW k s p = true) (ht : 0 ≤ t ∧ t ≤ 1099511627776) :
    Calls Tryd.prog 47 #[.agg #[.int .i64 k, .int .i64 s, .int .i64 p], .int .i64 t] w (WinsTo w (assignW k s p t)) := by
  unfold validW at hv
  by_cases k1 : k = 1
  · subst k1
    rw [if_pos (.inl rfl)] at hv
    have hv := of_decide_eq_true hv
    obtain ⟨h1, h2, rfl⟩ := hv
    exact rin_tumble s t w ⟨h1, h2⟩ ht
  · by_cases k3 : k = 3
    · subst k3
      rw [if_pos (.inr rfl)] at hv
      have hv := of_decide_eq_true hv
      obtain ⟨h1, h2, rfl⟩ := hv
      exact rin_session s t w ⟨h1, h2⟩ ht
    · rw [if_neg (by omega)] at hv
      by_cases k2 : k = 2
      · subst k2
        rw [if_pos rfl] at hv
        have hv := of_decide_eq_true hv
        exact rin_step s p t w ⟨hv.1, hv.2.1⟩ hv.2.2 ht
      · rw [if_neg k2] at hv
        by_cases k4 : k = 4
        · subst k4
          rw [if_pos rfl] at hv
          have hv := of_decide_eq_true hv
          obtain ⟨rfl, rfl⟩ := hv
          exact rin_whole t w
        · rw [if_neg k4] at hv; cases hv

theorem run_neq_win (w : World) (x y : Int) : (binOp .neq 149 (.agg #[.int .i64 x, .int .i64 y]) (.agg #[.int .i64 x, .int .i64 y])).run Tryd.prog w = .ok (.bool false) w := by
  go_simp
attribute [local go_sem high] run_neq_win
set_option maxRecDepth 100000 in
set_option maxHeartbeats 2000000 in
theorem same_wins (a : List Win) (v u : Value) (w : World) (ha : WinsIn (fun _ => True) w v a) (hb : WinsIn (fun _ => True) w u a) :
    Calls Tryd.prog 48 #[v, u] w (BoolW w true) := by
  obtain ⟨p, c, rfl, hac, hcm, -, hea⟩ := ha
  obtain ⟨q, d, rfl, hbd, hdm, -, heb⟩ := hb
  unfold maxLen at hcm hdm
  have HA := hid hea; have HB := hid heb; clear hea heb
  go_enter Tryd.func48, Tryd.ntmps48
  go_wp2_with fail
  obtain ⟨R1, hR1⟩ : ∃ RR_ : (Nat → Value) → World → Prop, RR_ = (fun us wx => ∃ n : Nat, n ≤ a.length ∧ us 5 = .int .i64 n ∧ Later w wx) := ⟨_, rfl⟩
  obtain ⟨mu1, hmu1⟩ : ∃ mu : (Nat → Value) → World → Nat, mu = (fun us _ => a.length - (intOf (us 5)).toNat) := ⟨_, rfl⟩
  have HR1 := hid hR1; have Hmu1 := hid hmu1; clear hR1 hmu1
  refine wp_loop_frame' [false, false, false, false, true, true, false, false, false, false, false, true, true, true, true, true, true, true, true, true, true, true, true, true, true, true] R1 _ mu1 HR1.out ?_ ?_
  · exact ⟨0, by omega, rfl, Later.refl _⟩
  intro us1 wx hrel
  obtain ⟨n, hn1, h5, hLx⟩ := hrel
  simp only [frameOf, Nat.reduceAdd, h5]
  have Hh5 := hid h5; clear h5
  have HL9 := hid hLx
  have HN := hid hn1
  clear hLx hn1
  by_cases h1 : n < a.length
  · obtain ⟨b1, o1, rfl, -, p1, p2⟩ := HA.out n h1
    obtain ⟨b2, o2, rfl, -, q1, q2⟩ := HB.out n h1
    replace p1 := HL9.out.cell p1
    replace p2 := HL9.out.cell p2
    replace q1 := HL9.out.cell q1
    replace q2 := HL9.out.cell q2
    have HN1 := hid h1
    generalize hx : a[n] = x at *
    clear hx
    obtain ⟨x1, x2⟩ := x
    simp only at p1 p2 q1 q2
    go_upto_region 6 with (fail)
    refine wp_region_lex (by kernel_rfl) (by kernel_rfl) Later Later.refl Later.trans (fun _ => none) (fun _ _ _ _ _ h => by cases h) ?_
    simp only [numbered, Nat.reduceAdd]
    refine LexS.out ?_
    iterate 9
      first
      | (refine LexS.skip rfl ?_; simp only [Act.put, List.setIfInBounds_toArray, List.set])
      | (refine LexS.one' rfl rfl ?_
         apply Exists.intro
         refine ⟨fun w hR hF => ?_, ?_⟩
         · have hP := hR
           repeat (first | replace hP := Later.of_drew hP | replace hP := Later.of_drewN hP | replace hP := Later.of_alloc hP)
           have hcs := hR.cells
           have zp1 := hP.cell p1
           have zp2 := hP.cell p2
           have zq1 := hP.cell q1
           have zq2 := hP.cell q2
           clear hR hF hP
           go_simp
           first | done | rfl
         simp only [Act.put, List.setIfInBounds_toArray, List.set])
    refine LexS.nil ?_
    intro w1 hR1 hF9
    clear hF9
    repeat (first | replace hR1 := Later.of_drew hR1 | replace hR1 := Later.of_drewN hR1 | replace hR1 := Later.of_alloc hR1)
    have HL10 := hid (Later.trans _ _ _ HL9.out hR1)
    clear hR1 p1 p2 q1 q2
    go_wp2_with fail
    have hw9 : wrap64 ((n : Int) + 1) = ((n + 1 : Nat) : Int) := by have := HN1.out; unfold wrap64; omega
    try simp only [hw9]
    refine Round.mk' HR1.out Hmu1.out rfl ?_ ?_
    · exact ⟨n + 1, HN1.out, rfl, HL10.out⟩
    · rw [Hh5.out]; have := HN1.out; simp [intOf, slots]; omega
  · go_wp2_with fail
    go_ret
    exact ⟨rfl, HL9.out⟩
end Go.Proofs.YthfgjmdmcoogpaaDoor
