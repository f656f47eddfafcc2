/-
  PROVED HERE: the walk of streamwrightlaw2.WireWrites.
-/
import Derived.Test.YtjpdmlopbflggaaRefRows
import Derived.Test.YtjpdmlopbflggaaWireSum
import Derived.Test.YtjpdmlopbflggaaCopied
import Derived.Test.YtjpdmlopbflggaaRefValid
import Derived.Test.YtjpdmlopbflggaaFrame
import Derived.Test.YtjpdmlopbflggaaLexS
namespace Go.Proofs.Ytjpdmlopbflggaa
open Go.RowKit

def BoolLater (w : World) (e : Ending) (w' : World) : Prop := ∃ b : Bool, e = .returned (.bool b) ∧ Later w w'
set_option maxRecDepth 100000 in
set_option maxHeartbeats 2500000 in
theorem law_valid (vr : Value) (rows : List Row) (w : World) (hr : IsRows w vr rows) (hf : ∀ r ∈ rows, RowFine r) : Calls Try.prog 18 #[vr] w (BoolLater w) := by
  have HR := hid hr
  obtain ⟨p, c, rfl, hl, hc, -, hel⟩ := hr
  have HEL := hid hel
  clear hel
  unfold maxLen at hc
  go_enter Try.func18, Try.ntmps18
  go_wp2_with fail
  go_loopw [3] (fun iv wr => ∃ (k : Nat), k ≤ rows.length ∧ iv = .int .i64 k ∧ Later w wr) (fun iv _ => rows.length - (intOf iv).toNat)
  case atStart => exact ⟨0, by omega, rfl, Later.refl _⟩
  case round =>
    obtain ⟨k, hk, rfl, hL⟩ := hrel
    have HL := hid hL
    by_cases hlt : k < rows.length
    · obtain ⟨b, o, rfl, -, q0, vv, q1, hvv⟩ := HEL.out k hlt
      have HV := hid (hvv.later hL)
      obtain ⟨va, vc, rfl, -⟩ := hvv
      replace q0 := hL.cell q0
      replace q1 := hL.cell q1
      generalize rows[k] = r at *
      clear hL
      have hk0 : (0 : Int) ≤ k := by omega
      go_wp2_with fail
      refine (rvalid_row r.time r.vals _ _ HV.out).mono ?_
      rintro e w2 ⟨rfl, hL2⟩
      have HL2 := hid (Later.trans _ _ _ HL.out hL2)
      clear hL2 q0 q1
      cases hb : validR ⟨r.time, r.vals⟩ with
      | true =>
        go_wp2
        go_roundw
        case rel => exact ⟨k + 1, by omega, by go_num, HL2.out⟩
        case measure => simp [intOf]; omega
      | false =>
        go_wp2
        go_ret
        exact ⟨false, rfl, HL2.out⟩
    · go_wp2
      go_ret
      exact ⟨true, rfl, HL.out⟩

set_option maxRecDepth 100000 in
set_option maxHeartbeats 2500000 in
theorem writes_walk (va vr : Value) (l : List UInt8) (rows : List Row) (n : Int) (w : World) (ha : IsBytes w va l) (hr : IsRows w vr rows) (hf : ∀ r ∈ rows, RowFine r) (hn : (Lit.int .i64 n).wf = true) (hlen : l.length ≤ 1048576) (hsz : (encRows rows).length ≤ 20000000) :
    Calls Try.prog 5 #[va, vr, .int .i64 n] w fun e w' => e = .returned (.bool true) ∧ Later w w' := by
  have HA := hid ha; have HR := hid hr; have HF := hid hf; have HN := hid hn
  clear hn hf
  obtain ⟨p, c, rfl, hl, hc, hpn, hea⟩ := ha
  have HEA := hid hea
  clear hea hr hpn
  unfold maxLen at hc
  go_enter Try.func5, Try.ntmps5
  go_wp2_with fail
  refine (copied_any _ l _ HA.out (by omega)).mono ?_
  rintro e w1 ⟨v1, rfl, ho1, hL1⟩
  have HO1 := hid ho1; have HL1 := hid hL1
  have hr1 : RowsIn (fun b => b < w.heap.size) w1 vr rows := (HR.out.rlt).rows_later hL1
  have HR1 := hid hr1
  clear ho1 hL1 hr1
  go_wp2_with fail
  refine (put_rows w.heap.size v1 vr l rows _ (fun b => b < w.heap.size) HR1.out (fun b hb => ⟨fun e => by have := (owns_block HO1.out b e.symm).1; omega, Nat.lt_of_lt_of_le hb HL1.out.size⟩) HF.out HO1.out HL1.out.size (by rw [List.length_append]; omega)).mono ?_
  rintro e w2 ⟨v2, rfl, hp2⟩
  have HP2 := hid hp2
  have hL02 : Later w w2 := Keeps.later ⟨hp2.keep.os.trans HL1.out.os, hp2.keep.tape.trans HL1.out.tape, hp2.keep.output.trans HL1.out.output, Nat.le_trans HL1.out.size hp2.keep.size, fun b hb _ =>
    (hp2.keep.block b (Nat.lt_of_lt_of_le hb HL1.out.size) fun e => by have := (owns_block HO1.out b e.symm).1; omega).trans (HL1.out.block b hb)⟩
  have HL2 := hid hL02
  clear hp2 hL02
  go_wp2_with fail
  refine (copied_any _ l _ (HA.out.bytes_later HL2.out) (by omega)).mono ?_
  rintro e w3 ⟨v3, rfl, ho3, hL3⟩
  have HO3 := hid ho3; have HL3 := hid hL3
  clear ho3 hL3
  go_wp2_with fail
  refine (put_int w2.heap.size v3 l n _ HN.out HO3.out HL3.out.size (by omega)).mono ?_
  rintro e w4 ⟨v4, rfl, hp4⟩
  have hL24 : Later w2 w4 := Keeps.later ⟨hp4.keep.os.trans HL3.out.os, hp4.keep.tape.trans HL3.out.tape, hp4.keep.output.trans HL3.out.output, Nat.le_trans HL3.out.size hp4.keep.size, fun b hb _ =>
    (hp4.keep.block b (Nat.lt_of_lt_of_le hb HL3.out.size) fun e => by have := (owns_block HO3.out b e.symm).1; omega).trans (HL3.out.block b hb)⟩
  have HP4 := hid hp4
  have HL4 := hid (Later.trans _ _ _ HL2.out hL24)
  have HO2 := hid (owns_later HP2.out.own hL24)
  clear hp4 hL24
  go_wp2_with fail
  refine (ref_rows vr rows _ (HR.out.rows_later HL4.out) HF.out (by omega)).mono ?_
  rintro e w5 ⟨v5, rfl, hp5⟩
  have HP5 := hid hp5
  have HL5 := hid (Later.trans _ _ _ HL4.out (hp5.later rfl))
  have HO2b := hid (owns_later HO2.out (hp5.later rfl))
  have HO4b := hid (owns_later HP4.out.own (hp5.later rfl))
  clear hp5
  go_wp2_with fail
  refine (ref_int n _ HN.out).mono ?_
  rintro e w6 ⟨v6, rfl, hp6⟩
  have HL6 := hid (Later.trans _ _ _ HL5.out (hp6.later rfl))
  have HB2 := hid (owned_bytes (owns_later HO2b.out (hp6.later rfl)))
  have HB4 := hid (owned_bytes (owns_later HO4b.out (hp6.later rfl)))
  have HB5 := hid (owned_bytes (owns_later HP5.out.own (hp6.later rfl)))
  have HB6 := hid (owned_bytes hp6.own)
  have HAL := hid (HA.out.bytes_later HL6.out)
  clear hp6
  go_wp2_with fail
  refine (sum_any _ l _ HAL.out).mono ?_
  rintro e w7 ⟨rfl, rfl⟩
  go_wp2_with fail
  refine (ref_sum_any _ l _ HAL.out).mono ?_
  rintro e w7 ⟨rfl, rfl⟩
  obtain ⟨a2, c2, rfl, hl2, hc2, hn2, hx2⟩ := HB2.out
  have hpos := encRows_pos rows
  obtain ⟨b2, o2, rfl, -⟩ := hx2 0 (by rw [List.length_append]; omega)
  have HP2p := hid (bytes_prefix (S := fun b => w.heap.size ≤ b) (⟨some ⟨b2, o2, none⟩, c2, rfl, hl2, hc2, hn2, hx2⟩))
  have hlr : (l ++ encRows rows).length = l.length + (encRows rows).length := List.length_append
  have g1 : decide ((l.length : Int) + ((encRows rows).length : Int) < l.length) = false := decide_eq_false (by omega)
  have g2 : (l.length : Int) ≤ c2 := by rw [hlr] at hl2; omega
  have g3 : ¬ c2 = l.length := by rw [hlr] at hl2; omega
  have HTL : Hid (BytesIn (fun b => w.heap.size ≤ b) w6 (.slice (some ⟨b2, o2 + l.length, none⟩) (encRows rows).length (c2 - l.length)) (encRows rows)) := hid (by
    have h := bytes_from (S := fun b => w.heap.size ≤ b) (k := l.length) (⟨some ⟨b2, o2, none⟩, c2, rfl, hl2, hc2, hn2, hx2⟩) (by rw [hlr] at hl2; omega) (by rw [hlr]; omega)
    rw [List.drop_left, hlr, Nat.add_sub_cancel_left] at h
    exact h)
  have gs : ¬ 9223372036854775807 < (strB l).size + (strB (encInt n)).size := by
    have := encInt_length n
    rw [strB_size, strB_size]; omega
  have gcat := strB_append l (encInt n)
  go_wp2_with fail
  refine wp_region_lex (by kernel_rfl) (by kernel_rfl) Later Later.refl Later.trans (fun _ => none) (fun _ _ _ _ _ h => by cases h) ?_
  simp only [numbered, Nat.reduceAdd]
  refine LexS.out ?_
  iterate 30
    first
    | (refine LexS.skip rfl ?_; simp only [Act.put, List.setIfInBounds_toArray, List.set])
    | (refine LexS.one' rfl rfl ?_
       apply Exists.intro
       refine ⟨fun w hR hF => ?_, ?_⟩
       · have hP := hR
         repeat (first | replace hP := Later.of_drew hP | replace hP := Later.of_drewN hP | replace hP := Later.of_alloc hP)
         have hcs := hR.cells
         have zr0 := (HP2p.out.bytes_later hP).string Try.underlying30 Try.underlying5 Try.underlying9
         have zr1 := (HAL.out.bytes_later hP).string Try.underlying30 Try.underlying5 Try.underlying9
         have zr2 := (HB4.out.bytes_later hP).string Try.underlying30 Try.underlying5 Try.underlying9
         have zr3 := (HB6.out.bytes_later hP).string Try.underlying30 Try.underlying5 Try.underlying9
         clear hR hF hP
         go_simp
         first | done | rfl
       simp only [Act.put, List.setIfInBounds_toArray, List.set])
  refine LexS.nil ?_
  intro w7 hR7 hF9
  clear hF9
  repeat (first | replace hR7 := Later.of_drew hR7 | replace hR7 := Later.of_drewN hR7 | replace hR7 := Later.of_alloc hR7)
  have HR7 := hid hR7
  clear hR7 gs gcat g1
  go_wp2_with fail
  refine (law_valid vr rows _ (((HR.out.rows_later HL6.out)).rows_later HR7.out) HF.out).mono ?_
  rintro e w8 ⟨good, rfl, hL8⟩
  have HL8 := hid (Later.trans _ _ _ HR7.out hL8)
  clear hL8
  have g4 : (l.length : Int) ≤ l.length + (encRows rows).length := by omega
  have g5 : l.length + (encRows rows).length - l.length = (encRows rows).length := by omega
  cases good with
  | false =>
    go_wp2_with fail
    refine wp_region_lex (by kernel_rfl) (by kernel_rfl) Later Later.refl Later.trans (fun _ => none) (fun _ _ _ _ _ h => by cases h) ?_
    simp only [numbered, Nat.reduceAdd]
    refine LexS.out ?_
    iterate 13
      first
      | (refine LexS.skip rfl ?_; simp only [Act.put, List.setIfInBounds_toArray, List.set])
      | (refine LexS.one' rfl rfl ?_
         apply Exists.intro
         refine ⟨fun w hR hF => ?_, ?_⟩
         · have hP := hR
           repeat (first | replace hP := Later.of_drew hP | replace hP := Later.of_drewN hP | replace hP := Later.of_alloc hP)
           have hcs := hR.cells
           clear hR hF hP
           go_simp
           first | done | rfl
         simp only [Act.put, List.setIfInBounds_toArray, List.set])
    refine LexS.nil ?_
    intro w9 hR9 hF9
    clear hF9
    repeat (first | replace hR9 := Later.of_drew hR9 | replace hR9 := Later.of_drewN hR9 | replace hR9 := Later.of_alloc hR9)
    have HR9 := hid (Later.trans _ _ _ HL8.out hR9)
    clear hR9
    go_wp2
    go_ret
    exact ⟨rfl, Later.trans _ _ _ HL6.out HR9.out⟩
  | true =>
    go_wp2_with fail
    refine wp_region_lex (by kernel_rfl) (by kernel_rfl) Later Later.refl Later.trans (fun _ => none) (fun _ _ _ _ _ h => by cases h) ?_
    simp only [numbered, Nat.reduceAdd]
    refine LexS.out ?_
    iterate 13
      first
      | (refine LexS.skip rfl ?_; simp only [Act.put, List.setIfInBounds_toArray, List.set])
      | (refine LexS.one' rfl rfl ?_
         apply Exists.intro
         refine ⟨fun w hR hF => ?_, ?_⟩
         · have hP := hR
           repeat (first | replace hP := Later.of_drew hP | replace hP := Later.of_drewN hP | replace hP := Later.of_alloc hP)
           have hcs := hR.cells
           have zr0 := ((HTL.out.bytes_later HL8.out).bytes_later hP).string Try.underlying30 Try.underlying5 Try.underlying9
           have zr1 := ((HB5.out.bytes_later HL8.out).bytes_later hP).string Try.underlying30 Try.underlying5 Try.underlying9
           clear hR hF hP
           go_simp
           first | done | rfl
         simp only [Act.put, List.setIfInBounds_toArray, List.set])
    refine LexS.nil ?_
    intro w9 hR9 hF9
    clear hF9
    repeat (first | replace hR9 := Later.of_drew hR9 | replace hR9 := Later.of_drewN hR9 | replace hR9 := Later.of_alloc hR9)
    have HR9 := hid (Later.trans _ _ _ HL8.out hR9)
    clear hR9
    go_wp2
    go_ret
    exact ⟨rfl, Later.trans _ _ _ HL6.out HR9.out⟩
end Go.Proofs.Ytjpdmlopbflggaa
