/-
  PROVED HERE: the contract of the law's marked: each row's values bear its number.
-/
import Derived.Test.YthfgjmdmcoogpaaRxOwn
import Derived.Test.YthfgjmdmcoogpaaLexS
import Derived.IntWalk
namespace Go.Proofs.Ythfgjmdmcoogpaa
set_option linter.unusedSimpArgs false
set_option linter.unusedVariables false
open Go.RowKit

/-- the row's values bear a number. -/
def MarkAt (w : World) (x : RX) (j : Nat) : Prop := ∀ q, q < x.row.vals.length → ∃ g c, x.v = .slice (some ⟨g, 0, none⟩) x.row.vals.length c ∧ w.cell? ⟨g, q * 3 + 1, none⟩ = some (.int .i64 j)
set_option maxRecDepth 100000 in
set_option maxHeartbeats 4000000 in
theorem marked_any (B : Nat) (xs : List RX) (v : Value) (w : World) (ho : OwnR B w v xs) (hs : ∀ x ∈ xs, ∃ a c, x.v = .slice a x.row.vals.length c) (hm : ∀ j (h : j < xs.length), MarkAt w xs[j] j) (hl : xs.length ≤ 4398046511104) (hr : ∀ x ∈ xs, x.row.vals.length ≤ 4398046511104) :
    Calls Try.prog 17 #[v] w (fun e w' => e = .returned (.bool true) ∧ w' = w) := by
  obtain ⟨a, c, rfl⟩ := ownsRow_slice ho
  have HO := hid ho; have HS := hid hs; have HM := hid hm; have HLL := hid hl; have HR := hid hr
  clear ho hs hm hl hr
  go_enter Try.func17, Try.ntmps17
  go_wp2_with fail
  obtain ⟨R1, hR1⟩ : ∃ RR_ : (Nat → Value) → World → Prop, RR_ = (fun us wx => ∃ i : Nat, us 3 = .int .i64 i ∧ i ≤ xs.length ∧ w = wx) := ⟨_, rfl⟩
  obtain ⟨mu1, hmu1⟩ : ∃ mu : (Nat → Value) → World → Nat, mu = (fun us _ => xs.length - (intOf (us 3)).toNat) := ⟨_, rfl⟩
  have HR1 := hid hR1; have Hmu1 := hid hmu1; clear hR1 hmu1
  refine wp_loop_frame' [false, false, true, true, true, true, true, true, true, true, true, true, true, true, true, true, true, true, true, true, true, true, true, true, true, true, true, true, true, true, true, true] R1 _ mu1 HR1.out ?_ ?_
  · exact ⟨0, rfl, Nat.zero_le _, rfl⟩
  intro us1 wx hrel
  obtain ⟨i, h3, hi, rfl⟩ := hrel
  simp only [frameOf, Nat.reduceAdd, h3]
  have Hh3 := hid h3; clear h3
  have HI := hid hi
  clear hi
  by_cases hlt : i < xs.length
  · have HLT := hid hlt
    have HWI : Hid (wrap64 ((i : Int) + 1) = ((i + 1 : Nat) : Int)) := hid (by have := HLL.out; unfold wrap64; omega)
    obtain ⟨g, rfl, -, -, p2, -⟩ := OwnR.cells HO.out hlt
    obtain ⟨ax, cx, hxv⟩ := HS.out _ (List.getElem_mem hlt)
    have hmk := HM.out i hlt
    have hrk := HR.out _ (List.getElem_mem hlt)
    generalize xs[i] = x at p2 hxv hmk hrk
    rw [hxv] at p2
    have HP2 := hid p2; have HMK := hid hmk; have HRK := hid hrk; have HXV := hid hxv
    obtain ⟨n, hn⟩ : ∃ n, n = x.row.vals.length := ⟨_, rfl⟩
    rw [← hn] at HP2 HXV HRK
    have HNN := hid hn
    clear p2 hmk hrk hxv hn
    go_wp2_with fail
    obtain ⟨R2, hR2⟩ : ∃ RR_ : (Nat → Value) → World → Prop, RR_ = (fun us wy => ∃ q : Nat, us 4 = .int .i64 q ∧ q ≤ n ∧ w = wy) := ⟨_, rfl⟩
    obtain ⟨mu2, hmu2⟩ : ∃ mu : (Nat → Value) → World → Nat, mu = (fun us _ => n - (intOf (us 4)).toNat) := ⟨_, rfl⟩
    have HR2 := hid hR2; have Hmu2 := hid hmu2; clear hR2 hmu2
    refine wp_loop_frame' [false, false, true, false, true, false, false, false, false, false, false, true, true, true, true, true, true, true, true, true, true, true, true, true, true, true, true, true, true, true, true, true] R2 _ mu2 HR2.out ?_ ?_
    · exact ⟨0, rfl, Nat.zero_le _, rfl⟩
    intro us2 wy hrel
    obtain ⟨q, h4, hq, rfl⟩ := hrel
    simp only [frameOf, Nat.reduceAdd, h4]
    have Hh4 := hid h4; clear h4
    have HQ := hid hq
    clear hq
    have p2 := HP2.out
    by_cases hqn : q < n
    · have HQN := hid hqn
      have HWQ : Hid (wrap64 ((q : Int) + 1) = ((q + 1 : Nat) : Int)) := hid (by have := HRK.out; unfold wrap64; omega)
      obtain ⟨g', c', e', r1⟩ := HMK.out q (by rw [← HNN.out]; exact hqn)
      rw [← HNN.out, HXV.out] at e'
      simp only [Value.slice.injEq, true_and] at e'
      obtain ⟨rfl, rfl⟩ := e'
      go_wp2_with fail
      try simp only [HWQ.out]
      refine Round.mk' HR2.out Hmu2.out rfl ?_ ?_
      · exact ⟨q + 1, rfl, HQN.out, rfl⟩
      · rw [Hh4.out]; have := HQN.out; simp [intOf, slots]; omega
    · go_wp2_with fail
      try simp only [HWI.out]
      refine Round.mk' HR1.out Hmu1.out rfl ?_ ?_
      · exact ⟨i + 1, rfl, HLT.out, rfl⟩
      · rw [Hh3.out]; have := HLT.out; simp [intOf, slots]; omega
  · go_wp2_with fail
    go_ret
    exact ⟨rfl, rfl⟩
end Go.Proofs.Ythfgjmdmcoogpaa
