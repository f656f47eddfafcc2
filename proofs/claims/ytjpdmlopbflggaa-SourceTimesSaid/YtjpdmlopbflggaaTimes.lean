/-
  PROVED HERE: streamwrightlaw4.SourceTimes returns true, for every rows and every bound. No conditions.
-/
import Derived.Test.YtjpdmlopbflggaaTimesPlain
import Derived.OpenShut
import Derived.ShutString
import Derived.ChangeOld
import Derived.LaidEql
namespace Go.Proofs.Ytjpdmlopbflggaa
open Go.ChangeShapes Go.WideShapes Go.ChangeAt Go.RowKit

set_option maxRecDepth 100000 in
set_option maxHeartbeats 4000000 in
theorem times_walk (rows : List Row) (bound : Int) (v : Value) (w : World) (hv : IsRows w v rows) (hb : (Lit.int .i64 bound).wf = true) :
    Calls Try.prog 7 #[v, .int .i64 bound] w fun e w' => e = .returned (.bool true) ∧ Later w w' := by
  have HV := hid hv
  obtain ⟨p, c, rfl, hac, hcm, -, hea⟩ := hv
  clear hea hcm hac hb
  cases hN : newErr rows bound with
  | some cc =>
    have HN := hid hN
    go_enter Try.func7, Try.ntmps7
    go_wp2_with fail
    refine (new_any rows bound _ _ HV.out).mono ?_
    intro e w1 hn
    unfold NewTo at hn
    rw [HN.out] at hn
    obtain ⟨rfl, hL⟩ := hn
    go_wp2
    go_ret
    exact ⟨rfl, hL⟩
  | none =>
    have HN := hid hN
    have hlen : rows.length ≤ 100 := by
      have := HN.out; unfold newErr at this; split at this
      · assumption
      · cases this
    have hok : 0 ≤ bound ∧ bound ≤ 1048576 ∧ rows.all validR = true := by
      have := HN.out; unfold newErr at this; rw [if_pos hlen] at this
      split at this
      · rename_i h
        split at this
        · rename_i h'; exact ⟨h.1, h.2, h'⟩
        · cases this
      · cases this
    have HOK := hid hok
    clear hN hok
    go_enter Try.func7, Try.ntmps7
    go_wp2_with fail
    refine (new_any rows bound _ _ HV.out).mono ?_
    intro e w1 hn
    unfold NewTo at hn
    rw [HN.out] at hn
    obtain ⟨R, rfl, hR, hr, hL⟩ := hn
    have HRd := hid hr; have HL := hid hL
    clear hr hL
    go_wp2
    go_loopw [9, 7, 8] (fun i t c wr => ∃ (s : Src) (n : Int), s.at_ ≤ rows.length + 1 ∧ i = .int .i64 s.at_ ∧ t = .int .i64 s.time ∧ c = .int .i64 n ∧ RdrAt wr R s ∧ Hid (s.rows = rows) ∧ Hid (s.bound = bound) ∧ -1 ≤ s.time ∧ 0 ≤ n ∧ n ≤ s.at_ ∧ 0 ≤ s.late ∧ s.late ≤ s.at_ ∧
        Hid (s.at_ ≤ rows.length → s.time ≤ 1099511627776) ∧ Hid (s.at_ = rows.length + 1 → s.time = 1099511627777) ∧ Hid (n + s.late = if s.at_ ≤ rows.length then (s.at_ : Int) else rows.length) ∧ Later w wr) (fun i _ _ _ => rows.length + 1 - (intOf i).toNat)
    case atStart => exact ⟨⟨rows, bound, 0, -1, 0⟩, 0, by simp, rfl, rfl, rfl, HRd.out, rfl, rfl, by simp, by simp, by simp, by simp, by simp, hid fun _ => by simp, hid fun h => by simp at h, hid (by simp), HL.out⟩
    case round =>
      obtain ⟨s, n, hat, rfl, rfl, rfl, hrd, hrows, hbound, hlo, hn0, hn1, hl0, hl1, hhi, hlast, hcnt, hLw⟩ := hrel
      have HRw := hid hrd; have HLw := hid hLw
      clear hrd hLw
      by_cases hlt : s.at_ ≤ rows.length
      · obtain ⟨s', n', hT⟩ := take_taken s n ⟨by rw [hrows.out]; exact hlen, by rw [hrows.out]; exact HOK.out.2.2, by rw [hbound.out]; exact HOK.out.1, by rw [hbound.out]; exact HOK.out.2.1, by omega, hl0, by omega⟩ (by rw [hrows.out]; exact hlt) hlo (hhi.out hlt)
        have HT := hid hT; clear hT
        have h2 := take_len s
        have HS : Hid s.Ok := hid ⟨by rw [hrows.out]; exact hlen, by rw [hrows.out]; exact HOK.out.2.2, by rw [hbound.out]; exact HOK.out.1, by rw [hbound.out]; exact HOK.out.2.1, by omega, hl0, by omega⟩
        go_wp2_with fail
        refine (take_any R s _ HRw.out HS.out).mono ?_
        rintro e w2 ⟨v2, rfl, hr2, he2, hk2⟩
        obtain ⟨a2, c2, rfl, -, -, -, hee⟩ := he2.elems
        have HE := hid hee; have HR2 := hid hr2
        have hL2 := hid (show Later w w2 from (Keeps.trans (HLw.out.keeps _) (hk2.mono fun _ _ h => h) : Keeps (fun b => b ≠ R) w w2).mono (S' := All) (fun k hk _ => by omega) |>.later)
        clear he2 hk2 hr2 hee
        have HC : Hid (chk s.take.2 s.time n = some (s'.time, n')) := hid HT.out.chk
        generalize s.take.2 = es at *
        go_wp2
        go_loop [11, 7, 8] (fun k t c => ∃ (m : Nat) (ti ci : Int), m ≤ es.length ∧ k = .int .i64 m ∧ t = .int .i64 ti ∧ c = .int .i64 ci ∧ 0 ≤ ci ∧ ci ≤ n + m ∧ Hid (chk (es.drop m) ti ci = some (s'.time, n'))) (fun k _ _ => es.length - (intOf k).toNat)
        case atStart => exact ⟨0, s.time, n, by omega, rfl, rfl, rfl, hn0, by simp, HC⟩
        case round =>
          obtain ⟨m, ti, ci, hm, rfl, rfl, rfl, hc0, hc1, hck⟩ := hrel
          by_cases hml : m < es.length
          · obtain ⟨b1, o1, rfl, -, p0, p1, -, p3, -⟩ := HE.out m hml
            have hd : es.drop m = es[m] :: es.drop (m + 1) := List.drop_eq_getElem_cons hml
            have hck' := hck.out
            rw [hd] at hck'
            generalize es[m] = x at *
            unfold chk at hck'
            by_cases hk1 : x.kind = 1
            · rw [if_pos hk1] at hck'
              by_cases ht : x.row.time < ti
              · rw [if_pos ht] at hck'; cases hck'
              · rw [if_neg ht] at hck'
                have HCK := hid hck'
                rw [hk1] at p0
                clear hck' hd hk1
                go_wp2
                go_round
                case rel => exact ⟨m + 1, ti, ci + 1, by omega, by go_num, rfl, rfl, by omega, by omega, HCK⟩
                case measure => simp [intOf]; omega
            · rw [if_neg hk1] at hck'
              by_cases hk2 : x.kind = 2
              · rw [if_pos hk2] at hck'
                by_cases ht : x.time ≤ ti
                · rw [if_pos ht] at hck'; cases hck'
                · rw [if_neg ht] at hck'
                  have HCK := hid hck'
                  rw [hk2] at p0
                  clear hck' hd hk1 hk2
                  go_wp2
                  go_round
                  case rel => exact ⟨m + 1, x.time, ci, by omega, by go_num, rfl, rfl, by omega, by omega, HCK⟩
                  case measure => simp [intOf]; omega
              · rw [if_neg hk2] at hck'; cases hck'
          · have hck' := hck.out
            rw [List.drop_eq_nil_of_le (by omega)] at hck'
            simp only [chk, Option.some.injEq, Prod.mk.injEq] at hck'
            obtain ⟨rfl, rfl⟩ := hck'
            go_wp2
            go_roundw
            case rel =>
              have t := HT.out
              have hr2 := HR2.out
              rw [t.eq] at hr2
              have e1 := t.rows.trans hrows.out
              have e2 := t.bound.trans hbound.out
              have e3 := t.at_
              have e4 := t.late
              have e5 := t.count
              have e6 := t.n
              rw [hrows.out] at e5
              refine ⟨s', ci, by omega, ?_, rfl, rfl, hr2, hid e1, hid e2, t.low, by omega, by omega, t.late0, by omega, hid fun h => t.high (by rw [hrows.out]; omega), hid fun h => t.last (by rw [hrows.out]; omega), hid ?_, hL2.out⟩
              · rw [e3]; go_num
              · have := hcnt.out
                rw [if_pos hlt] at this
                split at e5 <;> split <;> omega
            case measure => simp [intOf]; omega
      · have hae : s.at_ = rows.length + 1 := by omega
        have e1 := hlast.out hae
        have e2 := hcnt.out
        rw [if_neg hlt] at e2
        have ht : (s.time == 1099511627777) = true := by simpa using e1
        have hsum : IntKind.i64.wrap (n + s.late) = rows.length := by rw [e2]; exact IntWalk.i64_in (rows.length : Int) (by omega)
        have E2 := hid e2
        clear e1 e2
        go_wp2_with (go_at_call 26; refine (late_any R s _ HRw.out).mono ?_; rintro e w2 ⟨rfl, rfl⟩)
        go_ret
        exact ⟨ret_bool (by first | rfl | simp [E2.out]), HLw.out⟩

theorem ownSourceTimes : ownKnob Try.prog.godebug = none := by kernel_rfl
theorem laidOutSourceTimes : laidOutB Try.prog = true := by kernel_rfl
set_option linter.unusedVariables false in
set_option maxRecDepth 100000 in
theorem liftedSourceTimes (os : Os) (started : os.Started) (H : Type) (enc : TypeId × Value → H) :
    ReturnsInHanded {} Try.checked os 7 .any (Rows.sourceTimesSpec.pre6 enc Try.prog Try.f7 Rows.sourceTimesRow.domain false) (Rows.sourceTimesSpec.post enc Try.prog Try.f7 false true false false) := by
  refine returnsInHanded_of_change (C := Try.checked) ownSourceTimes started (by kernel_rfl) Try.func7
    (ChangeSpec.witness6 (enc := enc) (C := Try.checked) false ⟨#[], #[.slice none 0 0, .int .i64 0], []⟩ 8 (by kernel_rfl) (by kernel_rfl) (by kernel_rfl) (by kernel_rfl)) ?_
  intro W base args ds gs before hval0 hW hcnd _
  have hval : ∀ (j : Nat) t v, Try.f7.params[j]? = some t → args[j]? = some v → Value.okWide Try.prog W .any base t v := hval0
  have hW' := hW
  obtain ⟨p, q, hA0, hV, rfl, hfz, hnd⟩ := hW
  have hA : DataW.TrodAll enc Try.prog W 0 (fun _ => true) true Try.f7.params.toList args.toList ds p := hA0
  rw [Try.params7] at hA hval
  obtain ⟨v0, vs0, d0, ds0, p0, q0, hargs, rfl, rfl, h0, r0⟩ := trodAll_cons hA
  obtain ⟨v1, vs1, d1, ds1, p1, q1, rfl, rfl, rfl, h1, r1⟩ := trodAll_cons r0
  obtain ⟨rfl, rfl, rfl⟩ := trodAll_nil r1
  obtain rfl : args = #[v0, v1] := by cases args; simp_all
  obtain ⟨rfl, rfl⟩ := trodVars_none hV
  have k0 := h0
  have lt0 : ∀ x ∈ p0, x.block < W.heap.size := by obtain ⟨m, hm⟩ := k0; exact DataW.trod_lt m _ _ _ hm
  obtain ⟨s0, len0, cap0, rfl⟩ := okWide_slice Try.underlying31 (hval 0 31 v0 rfl rfl)
  obtain ⟨fu0, hf0⟩ := h0
  obtain ⟨u0, a0, hu0, w0, ok0⟩ := open_rows Try.underlying31 Try.underlying49 (by kernel_rfl) (by kernel_rfl) rfl rfl rfl Try.underlying2 (tK := 43) (tI := 2) (tT := 9) Try.underlying41 Try.underlying45 (by kernel_rfl) (by kernel_rfl) rfl rfl rfl rfl Try.underlying43 Try.underlying2 Try.underlying9 hf0
  obtain rfl : Value.slice s0 len0 cap0 = u0 := by simpa [Value.cells] using hu0
  have k1 := h1
  have lt1 : ∀ x ∈ p1, x.block < W.heap.size := by obtain ⟨m, hm⟩ := k1; exact DataW.trod_lt m _ _ _ hm
  obtain ⟨a1, rfl, rfl, rfl, w1⟩ := open_int Try.underlying2 (hval 1 2 v1 rfl rfl) h1
  clear hA0 hval0
  refine (times_walk a0 a1 _ W w0 w1).mono fun e W' ⟨he, bel⟩ => ?_
  subst he
  exact ⟨_, rfl, _, _, _, [], _, [], hW', trodAll_mk1 (shut_bool Try.underlying4 _), (trodAll_cons_mk (Below.trod laidOutSourceTimes (by kernel_rfl) (of_decide_eq_true (by kernel_rfl)) k0 bel lt0) (trodAll_cons_mk (shut_int Try.underlying2 w1) trodAll_mk0)), rfl, bel.frame _, fun h => by cases h⟩

theorem overSourceTimes : Rows.sourceTimesRow.holds Try.pinned (OpenSpec.ofChange Rows.sourceTimesSpec) :=
  OpenClaim.holds_of_wide 7 Try.f7 rfl rfl rfl rfl rfl rfl rfl ⟨rfl, rfl, rfl, rfl, rfl⟩ rfl rfl rfl rfl rfl (by kernel_rfl) Try.func7 (by kernel_rfl)
    (of_decide_eq_true (by kernel_rfl)) (by unfold Func.isWrapper; first | (rw [if_pos (by decide +kernel)]; kernel_rfl) | (rw [if_neg (by decide +kernel)]; exact ⟨rfl, rfl⟩))
    (fun os started H enc _ => liftedSourceTimes os started H enc)
theorem provedSourceTimes : Rows.SourceTimesSaid := overSourceTimes
#print axioms provedSourceTimes
end Go.Proofs.Ytjpdmlopbflggaa
