/-
  PROVED HERE: the contract of wire.Open.
-/
import Derived.Test.YthfgjmdmcoogpaaDoorWordB
import Derived.Test.YthfgjmdmcoogpaaDoorTold
import Derived.Test.YthfgjmdmcoogpaaDoorFrame
namespace Go.Proofs.YthfgjmdmcoogpaaDoor
set_option linter.unusedSimpArgs false
set_option linter.unusedVariables false
open Go.RowKit

theorem word_i64 (a b c d : Nat) (ha : a < 2 ^ 8) (hb : b < 2 ^ 8) (hc : c < 2 ^ 8) (hd : d < 2 ^ 8) :
    IntKind.i64.wrap (IntKind.i64.wrap (IntKind.i64.wrap (IntKind.i64.wrap (IntKind.i64.wrap (a : Int) * 16777216) + IntKind.i64.wrap (IntKind.i64.wrap (b : Int) * 65536)) + IntKind.i64.wrap (IntKind.i64.wrap (c : Int) * 256)) + IntKind.i64.wrap (d : Int)) =
      ((a * 16777216 + b * 65536 + c * 256 + d : Nat) : Int) := by
  have wr : ∀ n : Int, 0 ≤ n → n ≤ 9223372036854775807 → IntKind.i64.wrap n = n := fun n h0 h1 => IntWalk.i64_in n (by omega)
  rw [wr (a : Int) (by omega) (by omega), wr (b : Int) (by omega) (by omega), wr (c : Int) (by omega) (by omega), wr (d : Int) (by omega) (by omega)]
  rw [wr ((a : Int) * 16777216) (by omega) (by omega), wr ((b : Int) * 65536) (by omega) (by omega), wr ((c : Int) * 256) (by omega) (by omega)]
  rw [wr ((a : Int) * 16777216 + (b : Int) * 65536) (by omega) (by omega), wr ((a : Int) * 16777216 + (b : Int) * 65536 + (c : Int) * 256) (by omega) (by omega), wr ((a : Int) * 16777216 + (b : Int) * 65536 + (c : Int) * 256 + (d : Int)) (by omega) (by omega)]
  simp
/-- what stands sealed at a place. -/
def openB (l : List UInt8) (k : Int) : List UInt8 × Int × Int :=
  if k < 0 ∨ (l.length : Int) < k ∨ (l.length : Int) - k < 8 then ([], 0, 7)
  else if 134217728 < be4 (l.drop k.toNat) ∨ (l.length : Int) - k - 8 < be4 (l.drop k.toNat) then ([], 0, 7)
  else if crc ((l.take (k.toNat + 8 + be4 (l.drop k.toNat))).drop (k.toNat + 8)) = be4 (l.drop (k.toNat + 4)) then ((l.take (k.toNat + 8 + be4 (l.drop k.toNat))).drop (k.toNat + 8), k + 8 + be4 (l.drop k.toNat), 0)
  else ([], 0, 8)
def OpenTo (w : World) (r : List UInt8 × Int × Int) (e : Ending) (w' : World) : Prop :=
  ∃ v, e = .returned (.tuple #[v, .int .i64 r.2.1, errVal r.2.2]) ∧ w'.ownsRow w.heap.size 5 1 v r.1.length (byteCells r.1) ∧ Later w w'
theorem owns_nil (w : World) (B : Nat) (e : TypeId) : w.ownsRow B e 1 (.slice none 0 0) ([] : List UInt8).length (byteCells []) := ⟨rfl, .inl ⟨rfl, rfl⟩⟩

set_option maxRecDepth 100000 in
set_option maxHeartbeats 2000000 in
theorem open_any (v : Value) (l : List UInt8) (k : Int) (w : World) (h : IsBytes w v l) (hk : (Lit.int .i64 k).wf = true) : Calls Tryd.prog 40 #[v, .int .i64 k] w (OpenTo w (openB l k)) := by
  obtain ⟨ii, hi, hz0, hz1, hz2⟩ := info_parts infoU8
  have HI := hid hi; have HZ0 := hid hz0; have HZ1 := hid hz1; have HZ2 := hid hz2; clear hi hz0 hz1 hz2
  have HV := hid h
  obtain ⟨p, c, rfl, hl, hc, hpn, hx⟩ := h
  have HX := hid hx
  clear hx hpn
  have hlc : (l.length : Int) ≤ 9223372036854775807 := by unfold maxLen at hc; omega
  have hcc : (c : Int) ≤ 9223372036854775807 := by unfold maxLen at hc; omega
  clear hc
  have hk1 : -9223372036854775808 ≤ k ∧ k ≤ 9223372036854775807 := by simpa [Lit.wf, IntKind.min, IntKind.max, IntKind.bits, IntKind.signed] using hk
  obtain ⟨hk1, hk2⟩ := hk1
  by_cases h0 : k < 0
  · have HO : Hid (openB l k = ([], 0, 7)) := hid (by unfold openB; rw [if_pos (.inl h0)])
    go_enter Tryd.func40, Tryd.ntmps40
    go_wp2
    go_ret3
    rw [HO.out]
    exact ⟨_, rfl, owns_nil _ _ _, Later.refl _⟩
  by_cases h1 : (l.length : Int) < k
  · have HO : Hid (openB l k = ([], 0, 7)) := hid (by unfold openB; rw [if_pos (.inr (.inl h1))])
    go_enter Tryd.func40, Tryd.ntmps40
    go_wp2
    go_ret3
    rw [HO.out]
    exact ⟨_, rfl, owns_nil _ _ _, Later.refl _⟩
  obtain ⟨n, rfl⟩ := Int.eq_ofNat_of_zero_le (Int.not_lt.1 h0)
  by_cases h2 : (l.length : Int) - n < 8
  · have HO : Hid (openB l n = ([], 0, 7)) := hid (by unfold openB; rw [if_pos (.inr (.inr h2))])
    go_enter Tryd.func40, Tryd.ntmps40
    go_wp2
    go_ret3
    rw [HO.out]
    exact ⟨_, rfl, owns_nil _ _ _, Later.refl _⟩
  obtain ⟨b, o, rfl, -, -⟩ := HX.out 0 (by omega)
  have hc0 : ¬ c = n := by omega
  have hc4 : ¬ c = n + 4 := by omega
  have hnl : n ≤ l.length := by omega
  have hn4 : n + 4 ≤ l.length := by omega
  have s0 := hid (bytes_from HV.out (k := n) (by omega) hnl)
  have s4 := hid (bytes_from HV.out (k := n + 4) (by omega) hn4)
  obtain ⟨m, hm⟩ : ∃ m, m = be4 (l.drop n) := ⟨_, rfl⟩
  obtain ⟨s, hs⟩ : ∃ s, s = be4 (l.drop (n + 4)) := ⟨_, rfl⟩
  have hm32 : m < 2 ^ 32 := hm ▸ be4_lt _
  have hs32 : s < 2 ^ 32 := hs ▸ be4_lt _
  have HM := hid hm; have HS := hid hs
  clear hm hs
  have hnn : (0 : Int) ≤ n := by omega
  have hg4 : (0 : Int) ≤ n + 4 := by omega
  have hl4 : (n : Int) + 4 ≤ l.length := by omega
  have ht4 : ((n : Int) + 4).toNat = n + 4 := by omega
  have hw4 : IntKind.i64.wrap ((n : Int) + 4) = n + 4 := IntWalk.i64_in _ (by omega)
  go_enter Tryd.func40, Tryd.ntmps40
  go_wp2_with fail
  refine wp_region_lex (by kernel_rfl) (by kernel_rfl) Later Later.refl Later.trans (kinds [(3, fun v _ => v = .int .u32 m), (8, fun v _ => v = .int .u32 s)]) (kinds_still (by simp +contextual)) ?_
  simp only [numbered, Nat.reduceAdd]
  iterate 3
    first
    | (refine Lex.skip rfl ?_; simp only [Act.put, List.setIfInBounds_toArray, List.set])
    | (refine Lex.one' rfl rfl ?_
       apply Exists.intro
       refine ⟨fun w hR hF => ?_, ?_⟩
       · have hP := hR
         repeat (first | replace hP := Later.of_drew hP | replace hP := Later.of_drewN hP | replace hP := Later.of_alloc hP)
         have hcs := hR.cells
         clear hR hF hP
         go_simp
         first | done | rfl
       simp only [Act.put, List.setIfInBounds_toArray, List.set])
  refine Lex.anyEq rfl rfl (fun w hR hF => ?_) ?_
  · have hP := hR
    repeat (first | replace hP := Later.of_drew hP | replace hP := Later.of_drewN hP | replace hP := Later.of_alloc hP)
    have hcs := hR.cells
    clear hF hR
    unfold Runs
    go_simp
    unfold Yield
    refine (word_any _ _ _ (s0.out.bytes_later hP) (by rw [List.length_drop]; omega)).mono ?_
    rintro e w' ⟨rfl, hL7⟩
    exact ⟨_, rfl, hL7, (by rw [HM.out])⟩
  simp only [Act.put, List.setIfInBounds_toArray, List.set]
  iterate 4
    first
    | (refine Lex.skip rfl ?_; simp only [Act.put, List.setIfInBounds_toArray, List.set])
    | (refine Lex.one' rfl rfl ?_
       apply Exists.intro
       refine ⟨fun w hR hF => ?_, ?_⟩
       · have hP := hR
         repeat (first | replace hP := Later.of_drew hP | replace hP := Later.of_drewN hP | replace hP := Later.of_alloc hP)
         have hcs := hR.cells
         clear hR hF hP
         go_simp
         first | done | rfl
       simp only [Act.put, List.setIfInBounds_toArray, List.set])
  refine Lex.anyEq rfl rfl (fun w hR hF => ?_) ?_
  · have hP := hR
    repeat (first | replace hP := Later.of_drew hP | replace hP := Later.of_drewN hP | replace hP := Later.of_alloc hP)
    have hcs := hR.cells
    clear hF hR
    unfold Runs
    go_simp
    unfold Yield
    refine (word_any _ _ _ (s4.out.bytes_later hP) (by rw [List.length_drop]; omega)).mono ?_
    rintro e w' ⟨rfl, hL7⟩
    exact ⟨_, rfl, hL7, (by rw [HS.out])⟩
  simp only [Act.put, List.setIfInBounds_toArray, List.set]
  iterate 2
    first
    | (refine Lex.skip rfl ?_; simp only [Act.put, List.setIfInBounds_toArray, List.set])
    | (refine Lex.one' rfl rfl ?_
       apply Exists.intro
       refine ⟨fun w hR hF => ?_, ?_⟩
       · have hP := hR
         repeat (first | replace hP := Later.of_drew hP | replace hP := Later.of_drewN hP | replace hP := Later.of_alloc hP)
         have hcs := hR.cells
         clear hR hF hP
         go_simp
         first | done | rfl
       simp only [Act.put, List.setIfInBounds_toArray, List.set])
  intro w2 hR2 hF9
  clear hF9
  repeat (first | replace hR2 := Later.of_drew hR2 | replace hR2 := Later.of_drewN hR2 | replace hR2 := Later.of_alloc hR2)
  have HR2 := hid hR2
  clear hR2 s0 s4 hw4 ht4 hg4 hl4 hc0 hc4 hn4
  by_cases h3 : 134217728 < m
  · have HO : Hid (openB l n = ([], 0, 7)) := hid (by unfold openB; rw [if_neg (by omega), if_pos (.inl (by rw [Int.toNat_natCast, ← HM.out]; exact h3))])
    have h3' : (134217728 : Int) < m := by omega
    go_wp2
    go_ret3
    rw [HO.out]
    exact ⟨_, rfl, owns_nil _ _ _, HR2.out⟩
  have h3' : ¬ (134217728 : Int) < m := by omega
  have hmi : IntKind.i64.wrap (m : Int) = m := IntWalk.i64_in _ (by omega)
  by_cases h4 : (l.length : Int) - n - 8 < m
  · have HO : Hid (openB l n = ([], 0, 7)) := hid (by unfold openB; rw [if_neg (by omega), if_pos (.inr (by rw [Int.toNat_natCast, ← HM.out]; exact h4))])
    go_wp2
    go_ret3
    rw [HO.out]
    exact ⟨_, rfl, owns_nil _ _ _, HR2.out⟩
  have HE : Hid (openB l n = if crc ((l.take (n + 8 + m)).drop (n + 8)) = s then ((l.take (n + 8 + m)).drop (n + 8), ((n : Int) + 8 + m), 0) else ([], 0, 8)) := hid (by
    unfold openB; rw [if_neg (by omega), if_neg (by rw [Int.toNat_natCast, ← HM.out]; omega)]; simp only [Int.toNat_natCast, ← HM.out, ← HS.out])
  have hlo : 0 ≤ (n : Int) + 8 := by omega
  have hhi : (n : Int) + 8 + m ≤ l.length := by omega
  have hhc : (n : Int) + 8 + m ≤ c := by omega
  have hlh : (n : Int) + 8 ≤ n + 8 + m := by omega
  have htl : ((n : Int) + 8).toNat = n + 8 := by omega
  have hth : ((n : Int) + 8 + m).toNat = n + 8 + m := by omega
  have hsub : n + 8 + m - (n + 8) = m := by omega
  obtain ⟨body, hbody⟩ : ∃ body, body = (l.take (n + 8 + m)).drop (n + 8) := ⟨_, rfl⟩
  have hbl : body.length = m := by rw [hbody, List.length_drop, List.length_take]; omega
  have HBL := hid hbl
  have HE' := HE.out
  rw [← hbody] at HE'
  have HE2 := hid HE'
  have HBD := hid hbody
  clear HE HE' hbl hbody
  have hsV : ∃ a, (if c = n + 8 then (some ⟨b, o, none⟩ : Option Addr) else some ⟨b, o + (n + 8), none⟩) = some a ∧ IsBytes w (.slice (some a) m (c - (n + 8))) body := by
    by_cases hcap : c = n + 8
    · rw [if_pos hcap]
      have := bytes_none HV.out hcap.symm (hi := n + 8 + m) (by omega) (by omega)
      rw [hsub, ← HBD.out] at this
      exact ⟨_, rfl, this⟩
    · rw [if_neg hcap]
      have := bytes_mid HV.out (lo := n + 8) (hi := n + 8 + m) (by omega) (by omega) (by omega)
      rw [hsub, ← HBD.out] at this
      exact ⟨_, rfl, this⟩
  obtain ⟨ad, hif, hVb⟩ := hsV
  have HVB := hid (hVb.bytes_later HR2.out)
  clear hVb
  go_wp2_with fail
  refine (sum_any _ body _ HVB.out).mono ?_
  rintro e w3 ⟨rfl, rfl⟩
  by_cases hcs : crc body = s
  · have hd : ((crc body : Int) != (s : Int)) = false := by rw [hcs]; simp
    have HE3 := hid HE2.out
    rw [if_pos hcs] at HE3
    have HE4 := hid HE3
    clear HE3 hcs
    go_wp2_with (at_builtin; refine wpList_append _ rfl _ _ 76 rfl w.heap.size 5 ii _ 1 1 Tryd.underlying76 HI.out HZ0.out HZ1.out HZ2.out rfl (by decide) (.slice none 0 0) 0 [] rfl (World.ownsRow_nil _ _ _ _) ad m (c - (n + 8)) (byteCells body) rfl ?c1 ?c2 ?c3 ?c4 ?c5 ?c6 ?_)
    case c1 => rw [byteCells_length, HBL.out, Nat.mul_one]
    case c2 => exact HVB.out.news rfl rfl
    case c3 => exact byteCells_one body
    case c4 => unfold maxLen; omega
    case c5 => omega
    case c6 => exact HR2.out.size
    intro v4 w4 hap
    have HA := hid hap
    clear hap
    go_wp2
    go_ret3
    rw [HE4.out]
    refine ⟨_, rfl, ?_, ?_⟩
    · show w4.ownsRow _ _ _ v4 body.length (byteCells body)
      rw [HBL.out]
      exact HA.out.own
    · exact Later.trans _ _ _ HR2.out (Keeps.later ((Keeps.of_grown HA.out.grown).mono fun _ _ _ => by simp [Value.ownBlock]))
  · have hd : ((crc body : Int) != (s : Int)) = true := by simp; omega
    have HE3 := HE2.out
    rw [if_neg hcs] at HE3
    have HE4 := hid HE3
    clear HE3 hcs
    go_wp2
    go_ret3
    rw [HE4.out]
    exact ⟨_, rfl, owns_nil _ _ _, HR2.out⟩

end Go.Proofs.YthfgjmdmcoogpaaDoor
