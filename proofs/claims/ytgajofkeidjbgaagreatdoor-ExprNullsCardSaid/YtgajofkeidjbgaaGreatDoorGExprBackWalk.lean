/-
  PROVED HERE: streamwrightlaw3.ExprBack returns true, for every text, columns and values that came in.
-/
import Derived.Test.YtgajofkeidjbgaaGreatDoorGRoundEval
import Derived.Test.YtgajofkeidjbgaaGreatDoorGPrint4
import Derived.Test.YtgajofkeidjbgaaGreatDoorGTabErr
namespace Go.Proofs.YtgajofkeidjbgaaGreatDoor
set_option linter.unusedSimpArgs false
set_option linter.unusedVariables false
open Go Go.RowKit Go.Deep

attribute [local go_sem high] run_eql_val' run_neq_val'
theorem IntOk.of_wf {x : Val} (h : ValOk x) : IntOk x := by
  have := h.2.1
  simp [Lit.wf, IntKind.min, IntKind.max, IntKind.bits, IntKind.signed] at this
  unfold IntOk
  omega
theorem row_arg' {W : World} {v : Value} {l : List Val} (h : IsVals W v l) (hg : ∀ x ∈ l, ValOk x) (hb : l.length * 32 ≤ reachBytes) : ∃ ao c, v = .slice ao l.length c ∧ RowArg W ao c l := by
  have h' := h
  obtain ⟨a, c, hv, hl, hc, hn, he⟩ := h
  exact ⟨a, c, hv, by rw [← hv]; exact h', by unfold reachBytes at hb; omega, fun x hx => IntOk.of_wf (hg x hx)⟩
/-- what Told answers of an error that the package tells. -/
def ErrIs (ev : Value) (o : Option Int) : Prop := match o with
  | none => ev = .nilIface
  | some c => ev = errV c
def toldN (o : Option Int) : Int := o.getD 0
theorem told_is {ev : Value} {o : Option Int} (h : ErrIs ev o) (w : World) (hg : Laid w) : Calls Tryz.prog 10 #[ev] w (NumTo w (toldN o)) := by
  cases o with
  | none => obtain rfl := h; exact told_nil w
  | some c => obtain rfl := h; exact told_errno c w hg
theorem eq_self_v (x : Val) : eqV x x = true := by rw [eqV_dec]; simp
def ChkTo (k : Int) (o : Option Int) (w : World) (e : Ending) (w' : World) : Prop := Later w w' ∧ ∃ p ev, e = .returned (.tuple #[.int .i64 k, .int .i64 p, ev]) ∧ ErrIs ev o
theorem check_is {s : List UInt8} {r : Except Fault Ex} (hr : TextR true s r) {ao : Option Addr} {c : Nat} {cs : List Col} {w : World} (hE : ErrVars w) (hT : PowTab w) (hS : SpaceTab w) (ha : ColsArg w ao c cs) : Calls Tryz.prog 13 #[.string (strB s), .slice ao cs.length c] w (ChkTo (chkK cs r) (chkE cs r) w) := by
  refine (check_any s ao c cs w hE hT hS ha).mono ?_
  rintro e w' ⟨hL, r', hr', hm⟩
  obtain rfl := text_one hr' hr
  refine ⟨hL, ?_⟩
  unfold chkK chkE
  cases hc : checkR cs r' with
  | error f => rw [hc] at hm; exact ⟨_, _, hm, rfl⟩
  | ok kx => rw [hc] at hm; exact ⟨_, _, hm, rfl⟩
/-- what Eval tells: the fault, the value. -/
def evE (q : Except Int Val) : Option Int := match q with
  | .error f => some f
  | .ok _ => none
def evY (q : Except Int Val) : Val := match q with
  | .error _ => nothing
  | .ok y => y
def EvlTo (q : Except Int Val) (w : World) (e : Ending) (w' : World) : Prop := Later w w' ∧ ∃ v ev, e = .returned (.tuple #[Val.v v, ev]) ∧ ErrIs ev (evE q) ∧ v = evY q
theorem eval_is {s : List UInt8} {r : Except Fault Ex} (hr : TextR true s r) {ao rao : Option Addr} {c rc : Nat} {cs : List Col} {row : List Val} {w : World} (hE : ErrVars w) (hT : PowTab w) (hS : SpaceTab w) (ha : ColsArg w ao c cs) (hra : RowArg w rao rc row) : Calls Tryz.prog 12 #[.string (strB s), .slice ao cs.length c, .slice rao row.length rc] w (EvlTo (evalR cs row r) w) := by
  refine (eval_any s ao c cs rao rc row w hE hT hS ha hra).mono ?_
  rintro e w' ⟨hL, r', hr', hm⟩
  obtain rfl := text_one hr' hr
  refine ⟨hL, ?_⟩
  cases hc : evalR cs row r' with
  | error f => rw [hc] at hm; exact ⟨_, _, hm, rfl, rfl⟩
  | ok y => rw [hc] at hm; exact ⟨_, _, hm, rfl, rfl⟩
theorem no_cols (w : World) : ColsArg w none 0 [] := ⟨fun i h => absurd h (by simp), ⟨Nat.le_refl _, by simp⟩, fun x h => absurd h (by simp)⟩
theorem no_row (w : World) : RowArg w none 0 [] := ⟨⟨none, 0, rfl, Nat.le_refl _, by unfold maxLen; omega, fun _ => rfl, fun i h => absurd h (by simp)⟩, by simp, fun x h => absurd h (by simp)⟩
set_option maxRecDepth 100000 in
set_option maxHeartbeats 8000000 in
theorem back_walk (s : List UInt8) (ao rao : Option Addr) (c rc : Nat) (cs : List Col) (row : List Val) (w : World) (hE : ErrVars w) (hT : PowTab w) (hS : SpaceTab w) (hG : Laid w) (ha : ColsArg w ao c cs) (hra : RowArg w rao rc row) :
    Calls Tryz.prog 7 #[.string (strB s), .slice ao cs.length c, .slice rao row.length rc] w fun e w' => e = .returned (.bool true) ∧ Later w w' := by
  have HE := hid hE; have HT := hid hT; have HS := hid hS; have HG := hid hG; have HA := hid ha; have HRA := hid hra
  clear hE hT hS hG ha hra
  go_enter Tryz.func7, Tryz.ntmps7
  go_wp2_with fail
  refine (eval_is (s := sumS) sum_text HE.out HT.out HS.out (no_cols w) (no_row w)).mono ?_
  rintro e w1 ⟨hL1, v, ev, rfl, hev, rfl⟩
  rw [sum_eval] at hev ⊢
  have hev : ev = .nilIface := hev
  subst hev
  have HL1 := hid hL1
  have heq : eqV ⟨1, 7, ⟨#[]⟩⟩ ⟨1, 7, ⟨#[]⟩⟩ = true := by decide +kernel
  have hv7 : Val.v (evY (.ok (intV 7))) = .agg #[.int .i64 1, .int .i64 7, .string ⟨#[]⟩] := rfl
  rw [hv7]
  clear hL1 hv7
  go_wp2_with fail
  obtain ⟨w2, hw2⟩ : ∃ w2, w2 = w1.alloc (.cells #[.int .i64 1, .int .i64 7, .string ⟨#[]⟩] 38) := ⟨_, rfl⟩
  have hL2 : Later w1 w2 := hw2 ▸ Later.alloc _ _
  rw [← hw2]
  have HL2 := hid (Later.trans _ _ _ HL1.out hL2)
  clear hL2 hw2 heq
  refine (print_any s w2 (HE.out.later HL2.out) (HT.out.later HL2.out) (HS.out.later HL2.out)).mono ?_
  rintro e w3 ⟨⟨r, hr, hm⟩, hL3⟩
  have HL3 := hid (Later.trans _ _ _ HL2.out hL3); have HR := hid hr
  clear hL3
  cases r with
  | error f =>
    obtain rfl := hm
    unfold errV
    clear hr
    go_wp2_with fail
    exact bodyPost_ret (results_tmp rfl _ _ _) rfl ⟨rfl, HL3.out⟩
  | ok x =>
  obtain rfl := hm
  clear hr
  obtain ⟨pt, hpt⟩ : ∃ l, printP x 0 = l := ⟨_, rfl⟩
  have HPT := hid hpt
  rw [hpt]
  have hsz : (strB pt).size = pt.length := strB_size _
  by_cases hlen : 200 < pt.length
  · have hlen' : (200 : Int) < (strB pt).size := by omega
    clear hpt hlen
    go_wp2_with fail
    exact bodyPost_ret (results_tmp rfl _ _ _) rfl ⟨rfl, HL3.out⟩
  have hlen' : ¬ (200 : Int) < (strB pt).size := by omega
  obtain ⟨x', hsame, hr2⟩ := round_text HR.out (by rw [hpt]; omega)
  rw [hpt] at hr2
  have HSM := hid hsame; have HR2 := hid hr2
  clear hpt hlen hsame hr2 hsz
  go_wp2_with fail
  refine (print_any pt w3 (HE.out.later HL3.out) (HT.out.later HL3.out) (HS.out.later HL3.out)).mono ?_
  rintro e w4 ⟨⟨r2, hr2, hm⟩, hL4⟩
  obtain rfl := text_one hr2 HR2.out
  obtain rfl := hm
  have HL4 := hid (Later.trans _ _ _ HL3.out hL4)
  rw [← print_eq x x' HSM.out 0, HPT.out]
  clear hL4 hr2 hlen'
  go_wp2_with fail
  refine (check_is HR.out (HE.out.later HL4.out) (HT.out.later HL4.out) (HS.out.later HL4.out) (HA.out.later HL4.out)).mono ?_
  rintro e w5 ⟨hL5, p5, ev5, rfl, hev5⟩
  have HL5 := hid (Later.trans _ _ _ HL4.out hL5); have HEV5 := hid hev5
  clear hL5 hev5
  go_wp2_with fail
  refine (check_is HR2.out (HE.out.later HL5.out) (HT.out.later HL5.out) (HS.out.later HL5.out) (HA.out.later HL5.out)).mono ?_
  rintro e w6 ⟨hL6, p6, ev6, rfl, hev6⟩
  rw [← (same_chk (cs := cs) HSM.out).2] at hev6
  rw [← (same_chk (cs := cs) HSM.out).1]
  have HL6 := hid (Later.trans _ _ _ HL5.out hL6); have HEV6 := hid hev6
  clear hL6 hev6
  go_wp2_with fail
  refine (eval_is HR.out (HE.out.later HL6.out) (HT.out.later HL6.out) (HS.out.later HL6.out) (HA.out.later HL6.out) (HRA.out.later HL6.out)).mono ?_
  rintro e w7 ⟨hL7, v7, ev7, rfl, hev7, hv7⟩
  have HL7 := hid (Later.trans _ _ _ HL6.out hL7); have HEV7 := hid hev7; have HV7 := hid hv7
  clear hL7 hev7 hv7
  rw [vv v7]
  go_upto_region 11 with (fail)
  obtain ⟨A7, hA7⟩ : ∃ A, A = w7.heap.size := ⟨_, rfl⟩
  obtain ⟨wa, hwa⟩ : ∃ wa, wa = w7.alloc (.cells #[.int .i64 v7.k, .int .i64 v7.n, .string v7.t] 38) := ⟨_, rfl⟩
  have hLa : Later w7 wa := hwa ▸ Later.alloc _ _
  have hOa : VObj wa A7 v7 := by unfold VObj; rw [hwa, hA7]; exact obj_new _ _
  rw [← hwa, ← hA7]
  have HLA := hid (Later.trans _ _ _ HL7.out hLa); have HOA := hid hOa
  clear hA7 hwa hLa hOa
  go_wp2_with fail
  refine (eval_is HR2.out (HE.out.later HLA.out) (HT.out.later HLA.out) (HS.out.later HLA.out) (HA.out.later HLA.out) (HRA.out.later HLA.out)).mono ?_
  rintro e w8 ⟨hL8, v8, ev8, rfl, hev8, hv8⟩
  rw [← same_eval HSM.out] at hev8 hv8
  rw [← HV7.out] at hv8
  subst hv8
  have HL8 := hid (Later.trans _ _ _ HLA.out hL8); have HEV8 := hid hev8
  have HOA8 := hid (HOA.out.later hL8)
  clear hL8 hev8
  rw [vv v8]
  go_upto_region 12 with (fail)
  obtain ⟨B8, hB8⟩ : ∃ A, A = w8.heap.size := ⟨_, rfl⟩
  obtain ⟨wb, hwb⟩ : ∃ wb, wb = w8.alloc (.cells #[.int .i64 v8.k, .int .i64 v8.n, .string v8.t] 38) := ⟨_, rfl⟩
  have hLb : Later w8 wb := hwb ▸ Later.alloc _ _
  have hOb : VObj wb B8 v8 := by unfold VObj; rw [hwb, hB8]; exact obj_new _ _
  rw [← hwb, ← hB8]
  have HLB := hid (Later.trans _ _ _ HL8.out hLb); have HOB := hid hOb
  have HOAB := hid (HOA8.out.later hLb)
  clear hB8 hwb hLb hOb
  go_wp2_with fail
  refine (told_is HEV5.out wb (HG.out.later HLB.out)).mono ?_
  rintro e wc ⟨rfl, hLc⟩
  have HLC := hid (Later.trans _ _ _ HLB.out hLc); have HOC := hid (HOAB.out.later hLc); have HOD := hid (HOB.out.later hLc)
  clear hLc
  go_wp2_with fail
  refine (told_is HEV6.out wc (HG.out.later HLC.out)).mono ?_
  rintro e wd ⟨rfl, hLd⟩
  have HLD := hid (Later.trans _ _ _ HLC.out hLd); have HOE := hid (HOC.out.later hLd); have HOF := hid (HOD.out.later hLd)
  clear hLd
  go_wp2_with fail
  refine (told_is HEV7.out wd (HG.out.later HLD.out)).mono ?_
  rintro e we ⟨rfl, hLe⟩
  have HLE := hid (Later.trans _ _ _ HLD.out hLe); have HOG := hid (HOE.out.later hLe); have HOH := hid (HOF.out.later hLe)
  clear hLe
  go_wp2_with fail
  refine (told_is HEV8.out we (HG.out.later HLE.out)).mono ?_
  rintro e wf ⟨rfl, hLf⟩
  have HLF := hid (Later.trans _ _ _ HLE.out hLf)
  obtain ⟨a0, a1, a2, -, -, -, al⟩ := (HOG.out.later hLf).cells
  obtain ⟨b0, b1, b2, -, -, -, bl⟩ := (HOH.out.later hLf).cells
  clear hLf
  have heq : eqV ⟨v8.k, v8.n, v8.t⟩ ⟨v8.k, v8.n, v8.t⟩ = true := eq_self_v v8
  go_wp2_with fail
  exact bodyPost_ret (results_tmp rfl _ _ _) rfl ⟨by simp, HLF.out⟩
theorem back_str (s : ByteArray) (cs : List Col) (row : List Val) (v u : Value) (w : World) (h : SliceOf All ColC 2 w v cs) (hg : ∀ x ∈ cs, ColGood x) (hb : cs.length * 24 ≤ reachBytes) (hr : IsVals w u row) (hrg : ∀ x ∈ row, ValOk x) (hrb : row.length * 32 ≤ reachBytes)
    (hE : ErrVars w) (hT : PowTab w) (hS : SpaceTab w) (hG : Laid w) : Calls Tryz.prog 7 #[.string s, v, u] w fun e w' => e = .returned (.bool true) ∧ Later w w' := by
  obtain ⟨ao, c, rfl, ha⟩ := cols_arg h hg hb
  obtain ⟨rao, rc, rfl, hra⟩ := row_arg' hr hrg hrb
  have h := back_walk s.data.toList ao rao c rc cs row w hE hT hS hG ha hra
  rw [strB_data] at h
  exact h
end Go.Proofs.YtgajofkeidjbgaaGreatDoor
