/-
  PROVED HERE: the contract of the document's reading of a number.
-/
import Derived.Test.YthfgjmdmcoogpaaDoorReaderAll
import Derived.Test.YthfgjmdmcoogpaaDoorRefInt
import Derived.Test.YthfgjmdmcoogpaaDoorLexS
namespace Go.Proofs.YthfgjmdmcoogpaaDoor
set_option linter.unusedSimpArgs false
set_option linter.unusedVariables false
open Go.RowKit

/-- the document's reader of bytes: all of them, where it stands, whether something was not as it should be. -/
def InB (w : World) (X : Nat) (v : Value) (all : List UInt8) (at_ : Nat) (bad : Bool) : Prop :=
  w.heap[X]? = some (.cells #[v, .int .i64 at_, .bool bad] 141 (0, 0)) ∧ BytesIn (fun b => b < X) w v all ∧ at_ ≤ all.length
theorem InB.later {w w' : World} {X : Nat} {v : Value} {all : List UInt8} {n : Nat} {bad : Bool} (h : InB w X v all n bad) (k : Later w w') : InB w' X v all n bad := ⟨k.obj h.1, h.2.1.bytes_later k, h.2.2⟩
theorem InB.lt {w : World} {X : Nat} {v : Value} {all : List UInt8} {n : Nat} {bad : Bool} (h : InB w X v all n bad) : X < w.heap.size := (Array.getElem?_eq_some_iff.1 h.1).1
theorem InB.keep {S : Nat → Prop} {w w' : World} {X : Nat} {v : Value} {all : List UInt8} {n : Nat} {bad : Bool} (h : InB w X v all n bad) (k : Keeps S w w') (hs : ∀ b, b ≤ X → S b) : InB w' X v all n bad :=
  ⟨k.obj (hs _ (Nat.le_refl _)) h.1, h.2.1.bytes_kept k fun b hb => hs b (Nat.le_of_lt hb), h.2.2⟩
theorem InB.put {w : World} {X : Nat} {v : Value} {all : List UInt8} {n : Nat} {bad : Bool} (h : InB w X v all n bad) (b : Bool) : InB (w.setCell ⟨X, 2, none⟩ (.bool b)) X v all n b ∧ Keeps (fun b => b ≠ X) w (w.setCell ⟨X, 2, none⟩ (.bool b)) := by
  have hk : Keeps (fun b => b ≠ X) w (w.setCell ⟨X, 2, none⟩ (.bool b)) := (Keeps.refl _ _).setCell (.inl (by simp)) _
  exact ⟨⟨obj_setCell (i := 2) h.1 _, h.2.1.bytes_kept hk fun _ hb => Nat.ne_of_lt hb, h.2.2⟩, hk⟩
theorem InB.move {w : World} {X : Nat} {v : Value} {all : List UInt8} {n : Nat} {bad : Bool} (h : InB w X v all n bad) (m : Nat) (hm : m ≤ all.length) : InB (w.setCell ⟨X, 1, none⟩ (.int .i64 m)) X v all m bad ∧ Keeps (fun b => b ≠ X) w (w.setCell ⟨X, 1, none⟩ (.int .i64 m)) := by
  have hk : Keeps (fun b => b ≠ X) w (w.setCell ⟨X, 1, none⟩ (.int .i64 m)) := (Keeps.refl _ _).setCell (.inl (by simp)) _
  exact ⟨⟨obj_setCell (i := 1) h.1 _, h.2.1.bytes_kept hk fun _ hb => Nat.ne_of_lt hb, hm⟩, hk⟩
/-- what 'number' comes to. -/
def RNumTo (w : World) (X : Nat) (v : Value) (all : List UInt8) (n : Nat) (bad : Bool) (e : Ending) (w' : World) : Prop :=
  ∃ k m b, e = .returned (.int .i64 k) ∧ InB w' X v all m b ∧ Keeps (fun b => b ≠ X) w w' ∧ (-9223372036854775808 ≤ k ∧ k ≤ 9223372036854775807) ∧ (bad = true → b = true) ∧
    (b = false → dInt (all.drop n) = some (k, all.drop m)) ∧ (b = true → bad = true ∨ dInt (all.drop n) = none)
theorem num_no {w w' : World} {X n m : Nat} {v : Value} {all : List UInt8} {bad : Bool} {e : Ending} (hd : dInt (all.drop n) = none) (he : e = .returned (.int .i64 0)) (hi : InB w' X v all m true) (hk : Keeps (fun b => b ≠ X) w w') : RNumTo w X v all n bad e w' :=
  ⟨0, m, true, he, hi, hk, by decide, fun _ => rfl, fun h => (by cases h), fun _ => .inr hd⟩
theorem num_yes {w w' : World} {X n m : Nat} {v : Value} {all : List UInt8} {bad : Bool} {k : Int} {e : Ending} (hd : dInt (all.drop n) = some (k, all.drop m)) (he : e = .returned (.int .i64 k)) (hi : InB w' X v all m bad) (hk : Keeps (fun b => b ≠ X) w w') : RNumTo w X v all n bad e w' :=
  ⟨k, m, bad, he, hi, hk, (dInt_sound hd).2, id, fun _ => hd, .inl⟩

theorem enc_stop {all : List UInt8} {n M u : Nat} {K : Int} (hr : -9223372036854775808 ≤ unzz u ∧ unzz u ≤ 9223372036854775807) (hK : K = unzz u) (hg : ∀ j (hj : j < (all.drop n).length), j < 10 → 128 ≤ (all.drop n)[j].toNat) (hM : M = n + 10) (hl : M ≤ all.length) : ¬ encInt K = (all.take M).drop n := by
  intro he
  rw [← hK] at hr
  obtain ⟨init, last, e1, -, e3, e4, -⟩ := encInt_shape hr.1 hr.2
  have e5 : (all.take M).drop n = (all.drop n).take 10 := by rw [List.drop_take, hM]; congr 1; omega
  rw [e5, e1] at he
  have hlen := congrArg List.length he
  rw [List.length_append, List.length_take, List.length_drop] at hlen
  simp only [List.length_cons, List.length_nil] at hlen
  have h9 : init.length = 9 := by omega
  have hlast : last = (all.drop n)[9]'(by rw [List.length_drop]; omega) := by
    have h1 : (init ++ [last])[9]'(by simp [h9]) = last := by simp [List.getElem_append, h9]
    have h2 : ((all.drop n).take 10)[9]'(by rw [← he]; simp [h9]) = (all.drop n)[9]'(by rw [List.length_drop]; omega) := by rw [List.getElem_take]
    rw [← h1, ← h2]
    simp only [he]
  have := hg 9 (by rw [List.length_drop]; omega) (by omega)
  rw [← hlast] at this
  omega

theorem u64_add (u c k : Nat) : IntKind.u64.wrap ((u : Int) + IntKind.u64.wrap ((c : Int) % 128 * 2 ^ (7 * k))) = (((u + c % 128 * 128 ^ k) % 2 ^ 64 : Nat) : Int) := by
  have e : (2 : Int) ^ (7 * k) = ((128 ^ k : Nat) : Int) := by rw [Int.pow_mul]; norm_cast
  have e2 : (c : Int) % 128 * 2 ^ (7 * k) = ((c % 128 * 128 ^ k : Nat) : Int) := by rw [e]; push_cast; rfl
  rw [e2]
  generalize c % 128 * 128 ^ k = q
  simp only [IntKind.wrap, IntKind.bits, IntKind.signed, Bool.false_and, Bool.false_eq_true, if_false]
  omega
theorem sum_step {l : List UInt8} {k u c : Nat} (hk : k < l.length) (hu : u = sumB (l.take k) % 2 ^ 64) (hc : c = l[k].toNat) : (u + c % 128 * 128 ^ k) % 2 ^ 64 = sumB (l.take (k + 1)) % 2 ^ 64 := by
  rw [List.take_succ_eq_append_getElem hk, sumB_snoc, List.length_take, Nat.min_eq_left (Nat.le_of_lt hk), hu, hc]
  omega

set_option maxRecDepth 100000 in
set_option maxHeartbeats 40000000 in
theorem ref_number (X : Nat) (v : Value) (all : List UInt8) (n : Nat) (bad : Bool) (w : World) (h : InB w X v all n bad) (hl : all.length ≤ 1099511627776) :
    Calls Tryd.prog 76 #[.pointer (some ⟨X, 0, none⟩)] w (RNumTo w X v all n bad) := by
  obtain ⟨av, cv, rfl, hlc, hcm, -, hel⟩ := h.2.1
  have HI := hid h
  have HE := hid hel
  have HLL := hid hl
  have HLC := hid hlc
  clear hel hlc hcm h hl
  have x1 := cell_obj (i := 1) HI.out.1 (v := .int .i64 n) rfl
  go_enter Tryd.func76, Tryd.ntmps76
  go_wp2_with fail
  clear x1
  obtain ⟨R1, hR1⟩ : ∃ RR_ : (Nat → Value) → World → Prop, RR_ = (fun us wx => ∃ k u : Nat, k ≤ 10 ∧ us 5 = .int .i64 k ∧ us 4 = .int .u64 u ∧ us 2 = .int .i64 0 ∧ u = sumB ((all.drop n).take k) % 2 ^ 64 ∧ InB wx X (.slice av all.length cv) all (n + k) bad ∧ Keeps (fun b => b ≠ X) w wx ∧ (∀ j (hj : j < (all.drop n).length), j < k → 128 ≤ (all.drop n)[j].toNat)) := ⟨_, rfl⟩
  obtain ⟨mu1, hmu1⟩ : ∃ mu : (Nat → Value) → World → Nat, mu = (fun us _ => 100 - (intOf (us 5)).toNat) := ⟨_, rfl⟩
  have HR1 := hid hR1; have Hmu1 := hid hmu1; clear hR1 hmu1
  refine wp_loop_frame' [false, false, true, false, true, true, true, false, false, false, false, false, false, true, true, true, true, true, true, true, true, true, true, true, true, true, true, true, true, true, true, true, true, true, true, true, true, true, true, true, true, true, true, true, true, true, true, true, true, true, true, true, true, true, true, true, true, true] R1 _ mu1 HR1.out ?_ ?_
  · exact ⟨0, 0, by omega, rfl, rfl, rfl, by simp [sumB], HI.out, Keeps.refl _ _, fun j hj h => by omega⟩
  intro us1 wx hrel
  obtain ⟨k, u, hk, h5, h4, h2, hu, hi, hkp, hge⟩ := hrel
  simp only [frameOf, Nat.reduceAdd, h5, h4, h2]
  have Hh5 := hid h5; clear h5
  have Hh4 := hid h4; clear h4
  have Hh2 := hid h2; clear h2
  have HU := hid hu
  have HIX := hid hi
  have HKX := hid hkp
  have HG := hid hge
  clear hu hi hkp hge
  have x0 := cell_obj (i := 0) HIX.out.1 (v := .slice av all.length cv) rfl
  have x1 := cell_obj (i := 1) HIX.out.1 (v := .int .i64 (n + k : Nat)) rfl
  have x2 := cell_obj (i := 2) HIX.out.1 (v := .bool bad) rfl
  have z1 := free_obj (i := 1) HIX.out.1
  have z2 := free_obj (i := 2) HIX.out.1
  have hnl := HIX.out.2.2
  by_cases h10 : k = 10
  · subst h10
    have HD : Hid (dInt (all.drop n) = none) := hid (dInt_never HG.out (.inr (Nat.le_refl _)))
    obtain ⟨M, hM⟩ : ∃ M, M = n + 10 := ⟨_, rfl⟩
    rw [← hM] at x1 HIX hnl
    have HM := hid hM
    have hM1 : n ≤ M := by omega
    have hM2 : M ≤ cv := Nat.le_trans hnl HLC.out
    have hM3 : ¬ cv = n := by omega
    have hM4 : n < all.length := by omega
    clear hM
    have HDD : Hid (∀ K, K = unzz u → dInt (all.drop n) = if encInt K = (all.take M).drop n then some (K, all.drop M) else none) := hid (fun K hK => by
      rw [if_neg]
      · exact HD.out
      · exact enc_stop (unzz_range (by have := HU.out; omega)) hK HG.out HM.out hnl)
    obtain ⟨K, hKu⟩ : ∃ K, K = unzz u := ⟨_, rfl⟩
    have HKU := hid hKu
    have hub : u < 18446744073709551616 := by have := HU.out; omega
    have HKB := hid (unzz_range hub)
    have hKc : (if u % 2 = 1 then -((u : Int) / 2) - 1 else (u : Int) / 2) = K := by rw [hKu]; unfold unzz; split <;> omega
    clear hKu
    by_cases hodd : u % 2 = 1
    all_goals
      first | rw [if_pos hodd] at hKc | rw [if_neg hodd] at hKc
      have hod := hodd
      have hod2 : ((u : Int) % 2 = 1) ↔ (u % 2 = 1) := by omega
      first | (have hod3 : (u : Int) % 2 = 1 := hod2.2 hodd) | (have hod3 : ¬ (u : Int) % 2 = 1 := fun h => hodd (hod2.1 h))
      clear hod hod2 hodd
      go_wp2_with fail
      obtain ⟨vb, vo, rfl, -, -⟩ := HE.out n hM4
      refine (ref_int K _ (by have := HKB.out; rw [← HKU.out] at this; simpa [Lit.wf, IntKind.min, IntKind.max, IntKind.bits, IntKind.signed] using this)).mono ?_
      rintro e w2 ⟨v2, rfl, hput⟩
      have hL2 := NewBytes.later hput
      have HV2 := hid (owned_bytes hput.own)
      have HI2 := hid (HIX.out.later hL2)
      have HK2 := hid (HKX.out.more hL2)
      obtain ⟨a2, c2, rfl⟩ := ownsRow_slice hput.own
      replace x0 := hL2.cell x0
      replace x1 := hL2.cell x1
      replace x2 := hL2.cell x2
      have HMID := hid (bytes_mid HI2.out.2.1 (lo := n) (hi := M) (by omega) hM1 hnl)
      clear hput hL2 z1 z2 HIX HKX
      go_wp2_with fail
      have HIF := hid (HDD.out K HKU.out)
      by_cases heq : encInt K = (all.take M).drop n
      · have hse := str_eq heq
        have HY : Hid (dInt (all.drop n) = some (K, all.drop M)) := hid (by rw [HIF.out, if_pos heq])
        clear heq
        refine wp_region_lex (by kernel_rfl) (by kernel_rfl) Later Later.refl Later.trans (fun _ => none) (fun _ _ _ _ _ h => by cases h) ?_
        simp only [numbered, Nat.reduceAdd]
        refine LexS.out ?_
        iterate 14
          first
          | (refine LexS.skip rfl ?_; simp only [Act.put, List.setIfInBounds_toArray, List.set])
          | (refine LexS.one' rfl rfl ?_
             apply Exists.intro
             refine ⟨fun w hR hF => ?_, ?_⟩
             · have hP := hR
               repeat (first | replace hP := Later.of_drew hP | replace hP := Later.of_drewN hP | replace hP := Later.of_alloc hP)
               have hcs := hR.cells
               have zx0 := hP.cell x0
               have zx1 := hP.cell x1
               have zr0 := (HV2.out.bytes_later hP).string Tryd.underlying76 Tryd.underlying5 Tryd.underlying9
               have zr1 := (HMID.out.bytes_later hP).string Tryd.underlying76 Tryd.underlying5 Tryd.underlying9
               clear hR hF hP
               go_simp
               first | done | rfl
             simp only [Act.put, List.setIfInBounds_toArray, List.set])
        refine LexS.nil ?_
        intro w3 hR3 hF9
        clear hF9
        repeat (first | replace hR3 := Later.of_drew hR3 | replace hR3 := Later.of_drewN hR3 | replace hR3 := Later.of_alloc hR3)
        have HR3 := hid hR3
        clear hR3 x0 x1 x2
        go_wp2_with fail
        go_ret
        exact num_yes HY.out rfl (HI2.out.later HR3.out) (HK2.out.more HR3.out)
      · have hse := str_ne heq
        have HY : Hid (dInt (all.drop n) = none) := hid (by rw [HIF.out, if_neg heq])
        clear heq
        refine wp_region_lex (by kernel_rfl) (by kernel_rfl) Later Later.refl Later.trans (fun _ => none) (fun _ _ _ _ _ h => by cases h) ?_
        simp only [numbered, Nat.reduceAdd]
        refine LexS.out ?_
        iterate 14
          first
          | (refine LexS.skip rfl ?_; simp only [Act.put, List.setIfInBounds_toArray, List.set])
          | (refine LexS.one' rfl rfl ?_
             apply Exists.intro
             refine ⟨fun w hR hF => ?_, ?_⟩
             · have hP := hR
               repeat (first | replace hP := Later.of_drew hP | replace hP := Later.of_drewN hP | replace hP := Later.of_alloc hP)
               have hcs := hR.cells
               have zx0 := hP.cell x0
               have zx1 := hP.cell x1
               have zr0 := (HV2.out.bytes_later hP).string Tryd.underlying76 Tryd.underlying5 Tryd.underlying9
               have zr1 := (HMID.out.bytes_later hP).string Tryd.underlying76 Tryd.underlying5 Tryd.underlying9
               clear hR hF hP
               go_simp
               first | done | rfl
             simp only [Act.put, List.setIfInBounds_toArray, List.set])
        refine LexS.nil ?_
        intro w3 hR3 hF9
        clear hF9
        repeat (first | replace hR3 := Later.of_drew hR3 | replace hR3 := Later.of_drewN hR3 | replace hR3 := Later.of_alloc hR3)
        have HI3 := hid (HI2.out.later hR3)
        have HK3 := hid (HK2.out.more hR3)
        clear hR3 x0 x1 x2
        have x2 := cell_obj (i := 2) HI3.out.1 (v := .bool bad) rfl
        have z2 := free_obj (i := 2) HI3.out.1
        go_wp2_with fail
        go_ret
        exact num_no HY.out rfl (HI3.out.put true).1 (HK3.out.trans (HI3.out.put true).2)
  have hk10 : (k : Int) < 10 := by omega
  have hll := HLL.out
  by_cases hat : n + k = all.length
  · have hat' : ((n + k : Nat) : Int) = ((all.length : Nat) : Int) := by omega
    rw [hat] at x1
    have HD : Hid (dInt (all.drop n) = none) := hid (dInt_never HG.out (.inl (by rw [List.length_drop]; omega)))
    go_wp2_with fail
    refine wp_region_lex (by kernel_rfl) (by kernel_rfl) Later Later.refl Later.trans (fun _ => none) (fun _ _ _ _ _ h => by cases h) ?_
    simp only [numbered, Nat.reduceAdd]
    refine LexS.out ?_
    iterate 10
      first
      | (refine LexS.skip rfl ?_; simp only [Act.put, List.setIfInBounds_toArray, List.set])
      | (refine LexS.one' rfl rfl ?_
         apply Exists.intro
         refine ⟨fun w hR hF => ?_, ?_⟩
         · have hP := hR
           repeat (first | replace hP := Later.of_drew hP | replace hP := Later.of_drewN hP | replace hP := Later.of_alloc hP)
           have hcs := hR.cells
           have zx0 := hP.cell x0
           have zx1 := hP.cell x1
           clear hR hF hP
           go_simp
           first | done | rfl
         simp only [Act.put, List.setIfInBounds_toArray, List.set])
    refine LexS.nil ?_
    intro w2 hR2 hF9
    clear hF9
    repeat (first | replace hR2 := Later.of_drew hR2 | replace hR2 := Later.of_drewN hR2 | replace hR2 := Later.of_alloc hR2)
    have HI3 := hid (HIX.out.later hR2)
    have HK3 := hid (HKX.out.more hR2)
    clear hR2 x0 x1 x2 z1 z2
    have x2 := cell_obj (i := 2) HI3.out.1 (v := .bool bad) rfl
    have z2 := free_obj (i := 2) HI3.out.1
    go_wp2_with fail
    go_ret
    exact num_no HD.out rfl (HI3.out.put true).1 (HK3.out.trans (HI3.out.put true).2)
  · have hlt : n + k < all.length := by omega
    have hlt' : ¬ all.length ≤ n + k := by omega
    obtain ⟨a9, c9, e9, -, -, -, hel9⟩ := HIX.out.2.1
    simp only [Value.slice.injEq] at e9
    obtain ⟨rfl, -, rfl⟩ := e9
    obtain ⟨vb, vo, rfl, hvb, q0⟩ := byte_cell hel9 hlt
    have HVB := hid hvb
    clear hel9 hvb
    obtain ⟨c, hc⟩ : ∃ c, c = all[n + k].toNat := ⟨_, rfl⟩
    have HKD : Hid (k < (all.drop n).length) := hid (by rw [List.length_drop]; omega)
    have HC : Hid (c = ((all.drop n)[k]'HKD.out).toNat) := hid (by rw [hc, List.getElem_drop])
    have hc8 : c < 256 := by rw [hc]; exact all[n + k].toNat_lt
    rw [← hc] at q0
    obtain ⟨pp, hpp⟩ : ∃ pp, pp = n + k := ⟨_, rfl⟩
    rw [← hpp] at x1 q0 hlt' HIX hnl hlt
    have HPP := hid hpp
    have HPL : Hid ((pp : Int) + 1 ≤ 1099511627776) := hid (by omega)
    have HC8 := hid hc8
    have HLT := hid hlt
    have HNL := hid hnl
    clear hc hpp hat hll hc8 hlt hnl
    go_wp2_with fail
    refine wp_region_lex (by kernel_rfl) (by kernel_rfl) Later Later.refl Later.trans (fun _ => none) (fun _ _ _ _ _ h => by cases h) ?_
    simp only [numbered, Nat.reduceAdd]
    refine LexS.out ?_
    iterate 10
      first
      | (refine LexS.skip rfl ?_; simp only [Act.put, List.setIfInBounds_toArray, List.set])
      | (refine LexS.one' rfl rfl ?_
         apply Exists.intro
         refine ⟨fun w hR hF => ?_, ?_⟩
         · have hP := hR
           repeat (first | replace hP := Later.of_drew hP | replace hP := Later.of_drewN hP | replace hP := Later.of_alloc hP)
           have hcs := hR.cells
           have zx0 := hP.cell x0
           have zx1 := hP.cell x1
           clear hR hF hP
           go_simp
           first | done | rfl
         simp only [Act.put, List.setIfInBounds_toArray, List.set])
    refine LexS.nil ?_
    intro w2 hR2 hF9
    clear hF9
    repeat (first | replace hR2 := Later.of_drew hR2 | replace hR2 := Later.of_drewN hR2 | replace hR2 := Later.of_alloc hR2)
    have HI2 := hid (HIX.out.later hR2)
    have HK2 := hid (HKX.out.more hR2)
    replace x0 := hR2.cell x0
    replace x1 := hR2.cell x1
    replace q0 := hR2.cell q0
    clear hR2 z1 z2 x2
    go_wp2_with fail
    have hlt := HLT.out
    refine wp_region_lex (by kernel_rfl) (by kernel_rfl) Later Later.refl Later.trans (fun _ => none) (fun _ _ _ _ _ h => by cases h) ?_
    simp only [numbered, Nat.reduceAdd]
    refine LexS.out ?_
    iterate 11
      first
      | (refine LexS.skip rfl ?_; simp only [Act.put, List.setIfInBounds_toArray, List.set])
      | (refine LexS.one' rfl rfl ?_
         apply Exists.intro
         refine ⟨fun w hR hF => ?_, ?_⟩
         · have hP := hR
           repeat (first | replace hP := Later.of_drew hP | replace hP := Later.of_drewN hP | replace hP := Later.of_alloc hP)
           have hcs := hR.cells
           have zx0 := hP.cell x0
           have zx1 := hP.cell x1
           have zq0 := hP.cell q0
           clear hR hF hP
           go_simp
           first | done | rfl
         simp only [Act.put, List.setIfInBounds_toArray, List.set])
    refine LexS.nil ?_
    intro w3 hR3 hF9
    clear hF9
    repeat (first | replace hR3 := Later.of_drew hR3 | replace hR3 := Later.of_drewN hR3 | replace hR3 := Later.of_alloc hR3)
    have HI3 := hid (HI2.out.later hR3)
    have HK3 := hid (HK2.out.more hR3)
    clear hR3 x0 x1 q0
    have x1 := cell_obj (i := 1) HI3.out.1 (v := .int .i64 pp) rfl
    have z1 := free_obj (i := 1) HI3.out.1
    go_upto_region 12 with (fail)
    have hw1 : wrap64 ((pp : Int) + 1) = ((pp + 1 : Nat) : Int) := by have := HPL.out; unfold wrap64; omega
    obtain ⟨u2, hu2⟩ : ∃ u2, u2 = (u + c % 128 * 128 ^ k) % 2 ^ 64 := ⟨_, rfl⟩
    have hwu := u64_add u c k
    rw [← hu2] at hwu
    have HU2 : Hid (u2 = sumB ((all.drop n).take (k + 1)) % 2 ^ 64) := hid (by rw [hu2]; exact sum_step (by rw [List.length_drop]; have := HPP.out; have := HLT.out; omega) HU.out HC.out)
    simp only [hw1, hwu]
    clear hw1 hwu hu2 x1 z1
    obtain ⟨M, hM⟩ : ∃ M, M = pp + 1 := ⟨_, rfl⟩
    rw [← hM]
    have HM : Hid (M = n + (k + 1)) := hid (by rw [hM, HPP.out]; omega)
    have hnl : M ≤ all.length := by rw [hM]; exact HLT.out
    have HI4 := hid (HI3.out.move M hnl).1
    have HK4 := hid (HK3.out.trans (HI3.out.move M hnl).2)
    clear hM
    obtain ⟨w4, hw4⟩ : ∃ w4, w4 = w3.setCell ⟨X, 1, none⟩ (.int .i64 M) := ⟨_, rfl⟩
    rw [← hw4] at HI4 HK4 ⊢
    clear hw4 HI2 HI3 HK2 HK3 HIX HKX
    have HK0 := hid hk10
    clear hk10 hk hlt' hlt
    by_cases hc7 : c < 128
    · have hci : (c : Int) < 128 := by omega
      have hM1 : n ≤ M := by have := HM.out; omega
      have hM2 : M ≤ cv := Nat.le_trans hnl HLC.out
      have hM3 : ¬ cv = n := by have := HM.out; omega
      have hM4 : n < all.length := by have := HM.out; omega
      have HDD : Hid (∀ K, K = unzz u2 → dInt (all.drop n) = if encInt K = (all.take M).drop n then some (K, all.drop M) else none) := hid (fun K hK => by
        have e5 : (all.take M).drop n = (all.drop n).take (k + 1) := by rw [List.drop_take, HM.out]; congr 1; omega
        have e6 : all.drop M = (all.drop n).drop (k + 1) := by rw [List.drop_drop, HM.out]
        rw [e5, e6, hK, HU2.out]
        exact dInt_stop (by rw [List.length_drop]; have := HM.out; omega) HG.out (by rw [← HC.out]; exact hc7))
      have x0 := cell_obj (i := 0) HI4.out.1 (v := .slice (some ⟨vb, vo, none⟩) all.length cv) rfl
      have x1 := cell_obj (i := 1) HI4.out.1 (v := .int .i64 (M : Nat)) rfl
      have x2 := cell_obj (i := 2) HI4.out.1 (v := .bool bad) rfl
      have HIX := HI4
      have HKX := HK4
      clear HI4 HK4
      obtain ⟨K, hKu⟩ : ∃ K, K = unzz u2 := ⟨_, rfl⟩
      have HKU := hid hKu
      have hub : u2 < 18446744073709551616 := by have := HU2.out; omega
      have HKB := hid (unzz_range hub)
      have hKc : (if u2 % 2 = 1 then -((u2 : Int) / 2) - 1 else (u2 : Int) / 2) = K := by rw [hKu]; unfold unzz; split <;> omega
      clear hKu
      by_cases hodd : u2 % 2 = 1
      all_goals
        first | rw [if_pos hodd] at hKc | rw [if_neg hodd] at hKc
        have hod := hodd
        have hod2 : ((u2 : Int) % 2 = 1) ↔ (u2 % 2 = 1) := by omega
        first | (have hod3 : (u2 : Int) % 2 = 1 := hod2.2 hodd) | (have hod3 : (u2 : Int) % 2 = 0 := by omega)
        clear hod hod2 hodd
        have HHH := hid h10
        clear hc7 hlt h10
        go_wp2_with fail
        refine (ref_int K _ (by have := HKB.out; rw [← HKU.out] at this; simpa [Lit.wf, IntKind.min, IntKind.max, IntKind.bits, IntKind.signed] using this)).mono ?_
        rintro e w2 ⟨v2, rfl, hput⟩
        have hL2 := NewBytes.later hput
        have HV2 := hid (owned_bytes hput.own)
        have HI2 := hid (HIX.out.later hL2)
        have HK2 := hid (HKX.out.more hL2)
        obtain ⟨a2, c2, rfl⟩ := ownsRow_slice hput.own
        replace x0 := hL2.cell x0
        replace x1 := hL2.cell x1
        replace x2 := hL2.cell x2
        have HMID := hid (bytes_mid HI2.out.2.1 (lo := n) (hi := M) (by omega) hM1 hnl)
        clear hput hL2 HIX HKX
        go_wp2_with fail
        have HIF := hid (HDD.out K HKU.out)
        by_cases heq : encInt K = (all.take M).drop n
        · have hse := str_eq heq
          have HY : Hid (dInt (all.drop n) = some (K, all.drop M)) := hid (by rw [HIF.out, if_pos heq])
          clear heq
          refine wp_region_lex (by kernel_rfl) (by kernel_rfl) Later Later.refl Later.trans (fun _ => none) (fun _ _ _ _ _ h => by cases h) ?_
          simp only [numbered, Nat.reduceAdd]
          refine LexS.out ?_
          iterate 14
            first
            | (refine LexS.skip rfl ?_; simp only [Act.put, List.setIfInBounds_toArray, List.set])
            | (refine LexS.one' rfl rfl ?_
               apply Exists.intro
               refine ⟨fun w hR hF => ?_, ?_⟩
               · have hP := hR
                 repeat (first | replace hP := Later.of_drew hP | replace hP := Later.of_drewN hP | replace hP := Later.of_alloc hP)
                 have hcs := hR.cells
                 have zx0 := hP.cell x0
                 have zx1 := hP.cell x1
                 have zr0 := (HV2.out.bytes_later hP).string Tryd.underlying76 Tryd.underlying5 Tryd.underlying9
                 have zr1 := (HMID.out.bytes_later hP).string Tryd.underlying76 Tryd.underlying5 Tryd.underlying9
                 clear hR hF hP
                 go_simp
                 first | done | rfl
               simp only [Act.put, List.setIfInBounds_toArray, List.set])
          refine LexS.nil ?_
          intro w3 hR3 hF9
          clear hF9
          repeat (first | replace hR3 := Later.of_drew hR3 | replace hR3 := Later.of_drewN hR3 | replace hR3 := Later.of_alloc hR3)
          have HR3 := hid hR3
          clear hR3 x0 x1 x2
          go_wp2_with fail
          go_ret
          exact num_yes HY.out rfl (HI2.out.later HR3.out) (HK2.out.more HR3.out)
        · have hse := str_ne heq
          have HY : Hid (dInt (all.drop n) = none) := hid (by rw [HIF.out, if_neg heq])
          clear heq
          refine wp_region_lex (by kernel_rfl) (by kernel_rfl) Later Later.refl Later.trans (fun _ => none) (fun _ _ _ _ _ h => by cases h) ?_
          simp only [numbered, Nat.reduceAdd]
          refine LexS.out ?_
          iterate 14
            first
            | (refine LexS.skip rfl ?_; simp only [Act.put, List.setIfInBounds_toArray, List.set])
            | (refine LexS.one' rfl rfl ?_
               apply Exists.intro
               refine ⟨fun w hR hF => ?_, ?_⟩
               · have hP := hR
                 repeat (first | replace hP := Later.of_drew hP | replace hP := Later.of_drewN hP | replace hP := Later.of_alloc hP)
                 have hcs := hR.cells
                 have zx0 := hP.cell x0
                 have zx1 := hP.cell x1
                 have zr0 := (HV2.out.bytes_later hP).string Tryd.underlying76 Tryd.underlying5 Tryd.underlying9
                 have zr1 := (HMID.out.bytes_later hP).string Tryd.underlying76 Tryd.underlying5 Tryd.underlying9
                 clear hR hF hP
                 go_simp
                 first | done | rfl
               simp only [Act.put, List.setIfInBounds_toArray, List.set])
          refine LexS.nil ?_
          intro w3 hR3 hF9
          clear hF9
          repeat (first | replace hR3 := Later.of_drew hR3 | replace hR3 := Later.of_drewN hR3 | replace hR3 := Later.of_alloc hR3)
          have HI3 := hid (HI2.out.later hR3)
          have HK3 := hid (HK2.out.more hR3)
          clear hR3 x0 x1 x2
          have x2 := cell_obj (i := 2) HI3.out.1 (v := .bool bad) rfl
          have z2 := free_obj (i := 2) HI3.out.1
          go_wp2_with fail
          go_ret
          exact num_no HY.out rfl (HI3.out.put true).1 (HK3.out.trans (HI3.out.put true).2)
    · have hci : ¬ (c : Int) < 128 := by omega
      go_wp2_with fail
      have hw2 : wrap64 ((k : Int) + 1) = ((k + 1 : Nat) : Int) := by have := HK0.out; unfold wrap64; omega
      simp only [hw2]
      refine Round.mk' HR1.out Hmu1.out rfl ?_ ?_
      · exact ⟨k + 1, u2, by have := HK0.out; omega, rfl, rfl, rfl, HU2.out, by rw [← HM.out]; exact HI4.out, HK4.out, fun j hj hjk => by
          by_cases hjj : j < k
          · exact HG.out j hj hjj
          · obtain rfl : j = k := by omega
            rw [← HC.out]; omega⟩
      · rw [Hh5.out]; have := HK0.out; simp [intOf, slots]; omega
end Go.Proofs.YthfgjmdmcoogpaaDoor
