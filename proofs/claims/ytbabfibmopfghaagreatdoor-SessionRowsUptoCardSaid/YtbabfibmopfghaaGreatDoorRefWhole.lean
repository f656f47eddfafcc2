/-
  PROVED HERE: the contract of the document's whole.
-/
import Derived.Test.YtbabfibmopfghaaGreatDoorRefUnq
namespace Go.Proofs.YtbabfibmopfghaaGreatDoor
set_option linter.unusedSimpArgs false
set_option linter.unusedVariables false
open Go.RowKit

theorem wholeF_snoc {l : List UInt8} {k : Nat} {c : UInt8} (h : l[k]? = some c) : wholeF 0 (l.take (k + 1)) = if 48 ≤ c.toNat ∧ c.toNat ≤ 57 then wrap64 (wrap64 (wholeF 0 (l.take k) * 10) + ((c.toNat : Int) - 48)) else wholeF 0 (l.take k) := by
  obtain ⟨q, r⟩ := List.getElem?_eq_some_iff.1 h
  rw [List.take_succ_eq_append_getElem q, r]
  unfold wholeF
  rw [List.foldl_append]
  rfl
set_option maxRecDepth 100000 in
set_option maxHeartbeats 4000000 in
theorem rwhole_any (l : List UInt8) (w : World) (hs : l.length ≤ 140737488351232) : Calls Tryz.prog 122 #[.string (strB l)] w fun e w' => e = .returned (.int .i64 (wholeR l)) ∧ w' = w := by
  have HS := hid hs
  have hz := strB_size l
  clear hs
  go_enter Tryz.func122, Tryz.ntmps122
  go_wp2_with fail
  obtain ⟨R1, hR1⟩ : ∃ RR_ : (Nat → Value) → World → Prop, RR_ = (fun us wx => ∃ (k : Nat) (n : Int), us 4 = .int .i64 k ∧ us 3 = .int .i64 n ∧ wx = w ∧ Hid (n = wholeF 0 (l.take k)) ∧ k ≤ l.length) := ⟨_, rfl⟩
  obtain ⟨mu1, hmu1⟩ : ∃ mu : (Nat → Value) → World → Nat, mu = (fun us _ => l.length - (intOf (us 4)).toNat) := ⟨_, rfl⟩
  have HR1 := hid hR1; have Hmu1 := hid hmu1; clear hR1 hmu1
  refine wp_loop_frame' [false, false, false, true, true, true, true, true, true, true, true, true, true, true, true, true, true, true, true, true, true, true, true, true, true, true, true, true, true] R1 _ mu1 HR1.out ?_ ?_
  · exact ⟨0, 0, rfl, rfl, rfl, hid rfl, Nat.zero_le _⟩
  intro us1 wx hrel
  obtain ⟨k, n, h4, h3, rfl, hn, hk⟩ := hrel
  simp only [frameOf, Nat.reduceAdd, h4, h3]
  have Hh4 := hid h4; clear h4
  have Hh3 := hid h3; clear h3
  by_cases hlt : k < l.length
  · have HK := hid hk
    obtain ⟨c, hc⟩ : ∃ c, l[k]? = some c := ⟨_, List.getElem?_eq_getElem hlt⟩
    have hix := fun w => run_idx w l k k rfl c hc
    have HU := hid (wholeF_snoc hc)
    obtain ⟨m, hm⟩ : ∃ m, m = c.toNat := ⟨_, rfl⟩
    have hm8 : m < 256 := by rw [hm]; exact c.toNat_lt
    rw [← hm] at hix HU
    have hk0 : (0 : Int) ≤ k := by omega
    have hkl : (k : Int) < l.length := by omega
    have HWN : Hid (wrap64 ((k : Int) + 1) = ((k + 1 : Nat) : Int)) := hid (by rw [(wrap_k k (Nat.le_trans hk HS.out)).1]; rfl)
    have HW1 := hid (wrap_k k (Nat.le_trans hk HS.out)).1
    clear hm hc hk
    by_cases d0 : 48 ≤ m
    · have d0' : (48 : Int) ≤ m := by omega
      by_cases d1 : m ≤ 57
      · have d1' : (m : Int) ≤ 57 := by omega
        have HN : Hid (wrap64 (wrap64 (n * 10) + ((m : Int) - 48)) = wholeF 0 (l.take (k + 1))) := hid (by rw [HU.out, if_pos ⟨d0, d1⟩, hn.out])
        have hw := HW1.out
        go_wp2_with fail
        clear hw
        refine Round.mk' HR1.out Hmu1.out rfl ?_ ?_
        · exact ⟨k + 1, _, congrArg (Value.int .i64) HWN.out, rfl, rfl, HN, by omega⟩
        · exact len_less (j := k + 1) (congrArg (Value.int .i64) HWN.out) Hh4.out (Nat.lt_succ_self k) hlt
      · have d1' : ¬ (m : Int) ≤ 57 := by omega
        have HN : Hid (n = wholeF 0 (l.take (k + 1))) := hid (by rw [HU.out, if_neg (fun h => d1 h.2), hn.out])
        have hw := HW1.out
        go_wp2_with fail
        clear hw
        refine Round.mk' HR1.out Hmu1.out rfl ?_ ?_
        · exact ⟨k + 1, _, by go_num, rfl, rfl, HN, by omega⟩
        · exact len_less (j := k + 1) (by go_num) Hh4.out (Nat.lt_succ_self k) hlt
    · have d0' : ¬ (48 : Int) ≤ m := by omega
      have HN : Hid (n = wholeF 0 (l.take (k + 1))) := hid (by rw [HU.out, if_neg (fun h => d0 h.1), hn.out])
      have hw := HW1.out
      go_wp2_with fail
      clear hw
      refine Round.mk' HR1.out Hmu1.out rfl ?_ ?_
      · exact ⟨k + 1, _, by go_num, rfl, rfl, HN, by omega⟩
      · exact len_less (j := k + 1) (by go_num) Hh4.out (Nat.lt_succ_self k) hlt
  · have hk' : k = l.length := by omega
    have HN : Hid (n = wholeF 0 l) := hid (by rw [hn.out, hk', List.take_length])
    have hnl : ¬ (k : Int) < l.length := by omega
    clear hn hk
    cases l with
    | nil =>
      have HR : Hid (wholeR [] = n) := hid (by rw [HN.out]; rfl)
      clear hk'
      go_wp2_with fail
      go_ret
      exact ⟨congrArg (fun x => Ending.returned (Value.int .i64 x)) HR.out.symm, rfl⟩
    | cons c r =>
      have hix := fun w => run_idx w (c :: r) 0 0 rfl c rfl
      obtain ⟨m, hm⟩ : ∃ m, m = c.toNat := ⟨_, rfl⟩
      have HM := hid hm
      rw [← hm] at hix
      have hl0 : (0 : Int) < ((c :: r).length : Int) := by simp only [List.length_cons]; omega
      clear hm hk'
      by_cases h45 : m = 45
      · have HR : Hid (wholeR (c :: r) = wrap64 (-n)) := hid (by
          have hc : c = 45 := UInt8.toNat_inj.1 (by rw [← HM.out, h45]; rfl)
          unfold wholeR
          rw [if_pos (by rw [hc]; rfl), HN.out])
        subst h45
        go_wp2_with fail
        go_ret
        exact ⟨congrArg (fun x => Ending.returned (Value.int .i64 x)) HR.out.symm, rfl⟩
      · have HR : Hid (wholeR (c :: r) = n) := hid (by
          unfold wholeR
          rw [if_neg (fun h => h45 (by rw [HM.out]; simp only [List.head?_cons, Option.some.injEq] at h; rw [h]; rfl)), HN.out])
        have h45' : ¬ (m : Int) = 45 := by omega
        go_wp2_with fail
        go_ret
        exact ⟨congrArg (fun x => Ending.returned (Value.int .i64 x)) HR.out.symm, rfl⟩
end Go.Proofs.YtbabfibmopfghaaGreatDoor
