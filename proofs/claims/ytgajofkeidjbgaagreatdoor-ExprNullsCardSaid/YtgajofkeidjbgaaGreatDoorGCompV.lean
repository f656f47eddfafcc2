/-
  PROVED HERE: cmp.Compare at kinds and integers, cmp.Or, value.Compare.
  PROVED HERE: a cut round a block that a loop is left from in more than one place. No program of its own.
  PROVED HERE: the contract of value.Read.
-/
import Derived.Test.YtgajofkeidjbgaaGreatDoorGLexS
import Derived.Test.YtgajofkeidjbgaaGreatDoorShelf
import Derived.Test.YtgajofkeidjbgaaGreatDoorGParseHex
namespace Go.Proofs.YtgajofkeidjbgaaGreatDoor
set_option linter.unusedSimpArgs false
set_option linter.unusedVariables false
open Go.RowKit

theorem cmpK (a b : Int) (w : World) : Calls Tryz.prog 123 #[.int .i64 a, .int .i64 b] w fun e w' => e = .returned (.int .i64 (cmpI a b)) ∧ w = w' := by
  rcases Int.lt_trichotomy a b with h | h | h
  · have hv : Hid (cmpI a b = -1) := by unfold cmpI Hid; simp [h]
    go_enter Tryz.func123, Tryz.ntmps123
    go_wp2
    go_ret
    exact ⟨ret_int hv.out.symm, rfl⟩
  · subst h
    have hv : Hid (cmpI a a = 0) := by unfold cmpI Hid; simp
    go_enter Tryz.func123, Tryz.ntmps123
    go_wp2
    go_ret
    exact ⟨ret_int hv.out.symm, rfl⟩
  · have hv : Hid (cmpI a b = 1) := by unfold cmpI Hid; rw [if_neg (by omega), if_pos h]
    have h' : ¬ a < b := by omega
    go_enter Tryz.func123, Tryz.ntmps123
    go_wp2
    go_ret
    exact ⟨ret_int hv.out.symm, rfl⟩
theorem cmpN (a b : Int) (w : World) : Calls Tryz.prog 124 #[.int .i64 a, .int .i64 b] w fun e w' => e = .returned (.int .i64 (cmpI a b)) ∧ w = w' := by
  rcases Int.lt_trichotomy a b with h | h | h
  · have hv : Hid (cmpI a b = -1) := by unfold cmpI Hid; simp [h]
    go_enter Tryz.func124, Tryz.ntmps124
    go_wp2
    go_ret
    exact ⟨ret_int hv.out.symm, rfl⟩
  · subst h
    have hv : Hid (cmpI a a = 0) := by unfold cmpI Hid; simp
    go_enter Tryz.func124, Tryz.ntmps124
    go_wp2
    go_ret
    exact ⟨ret_int hv.out.symm, rfl⟩
  · have hv : Hid (cmpI a b = 1) := by unfold cmpI Hid; rw [if_neg (by omega), if_pos h]
    have h' : ¬ a < b := by omega
    go_enter Tryz.func124, Tryz.ntmps124
    go_wp2
    go_ret
    exact ⟨ret_int hv.out.symm, rfl⟩


theorem or_any (b : Nat) (l : List Int) (c : Nat) (w : World) (hl : l.length ≤ 100) (hc : ∀ i (h : i < l.length), w.cell? ⟨b, i, none⟩ = some (.int .i64 l[i])) :
    Calls Tryz.prog 122 #[.slice (some ⟨b, 0, none⟩) l.length c] w fun e w' => e = .returned (.int .i64 (orL l)) ∧ w = w' := by
  go_enter Tryz.func122, Tryz.ntmps122
  go_wp2
  go_loop [8] (fun i => ∃ n : Nat, n ≤ l.length ∧ i = .int .i64 n ∧ ∀ j (h : j < l.length), j < n → l[j] = 0) (fun i => l.length - (intOf i).toNat)
  case atStart => exact ⟨0, by omega, rfl, fun j h h' => by omega⟩
  case round =>
    obtain ⟨n, hn, rfl, hz⟩ := hrel
    have HZ := hid hz; clear hz
    by_cases hlt : n < l.length
    · have h1 := hc n hlt
      have HC := hid hc; clear hc
      by_cases h0 : l[n] = 0
      · have H0 := hid h0
        rw [h0] at h1; clear h0
        go_wp2
        go_round
        case rel => 
          refine ⟨n + 1, by omega, by go_num, fun j h h' => ?_⟩
          by_cases hj : j = n
          · subst hj; exact H0.out
          · exact HZ.out j h (by omega)
        case measure => simp [intOf]; omega
      · have hr : Hid (orL l = l[n]) := by
          unfold Hid orL
          have : l.find? (fun x => x != 0) = some l[n] := by
            rw [List.find?_eq_some_iff_getElem]
            exact ⟨by simpa using h0, n, hlt, rfl, fun j hj => by simpa using HZ.out j (by omega) hj⟩
          rw [this]; rfl
        have h0' : (l[n] != 0) = true := by simpa using h0
        go_wp2
        go_ret
        exact ⟨ret_int hr.out.symm, rfl⟩
    · have hr : Hid (orL l = 0) := by
        unfold Hid orL
        have : l.find? (fun x => x != 0) = none := by
          rw [List.find?_eq_none]
          intro x hx
          obtain ⟨j, hj, rfl⟩ := List.getElem_of_mem hx
          simpa using HZ.out j hj (by omega)
        rw [this]; rfl
      clear hc
      go_wp2
      go_ret
      exact ⟨ret_int hr.out.symm, rfl⟩


set_option maxRecDepth 100000 in
theorem compare_any (x y : Val) (w : World) :
    Calls Tryz.prog 105 #[x.v, y.v] w fun e w' => e = .returned (.int .i64 (compareV x y)) ∧ Later w w' := by
  obtain ⟨k1, n1, t1⟩ := x
  obtain ⟨k2, n2, t2⟩ := y
  unfold compareV
  go_enter Tryz.func105, Tryz.ntmps105
  go_wp2
  refine wp_region_lex (by kernel_rfl) (by kernel_rfl) Later Later.refl Later.trans (kinds [(4, fun v _ => v = .int .i64 (cmpI k1 k2)), (9, fun v _ => v = .int .i64 (cmpI n1 n2)), (14, fun v _ => v = .int .i64 (Lib.compareBytes t1.data.toList t2.data.toList)), (15, fun v w => ∃ b, v = .slice (some ⟨b, 0, none⟩) 3 3 ∧ w.heap[b]? = some (.cells #[.int .i64 (cmpI k1 k2), .int .i64 (cmpI n1 n2), .int .i64 (Lib.compareBytes t1.data.toList t2.data.toList)] 3 (0, 0))), (16, fun v _ => v = .int .i64 (orL [cmpI k1 k2, cmpI n1 n2, Lib.compareBytes t1.data.toList t2.data.toList]))]) (kinds_still (by simp only [List.mem_cons, List.not_mem_nil, or_false, forall_eq_or_imp, forall_eq]; exact ⟨fun _ _ _ _ h => h, fun _ _ _ _ h => h, fun _ _ _ _ h => h, fun _ _ _ hR ⟨b, h, h'⟩ => ⟨b, h, hR.obj h'⟩, fun _ _ _ _ h => h⟩)) ?_
  simp only [numbered, Nat.reduceAdd]
  iterate 4
    first
    | (refine Lex.skip rfl ?_; simp only [Act.put, List.setIfInBounds_toArray, List.set])
    | (refine Lex.one' rfl rfl ?_
       apply Exists.intro
       refine ⟨fun w hR hF => ?_, ?_⟩
       · have hP := hR
         repeat (first | replace hP := Later.of_drew hP | replace hP := Later.of_drewN hP | replace hP := Later.of_alloc hP)
         have hcs := hR.cells
         clear hR hF hP
         go_simp
         first | done | rfl
       simp only [Act.put, List.setIfInBounds_toArray, List.set])
  refine Lex.anyEq rfl rfl (fun w hR hF => ?_) ?_
  · have hP := hR
    repeat (first | replace hP := Later.of_drew hP | replace hP := Later.of_drewN hP | replace hP := Later.of_alloc hP)
    have hcs := hR.cells
    clear hF hR
    unfold Runs
    go_simp
    unfold Yield
    refine (cmpK k1 k2 _).mono ?_
    rintro e w' ⟨rfl, rfl⟩
    exact ⟨_, rfl, Later.refl _, rfl⟩
  simp only [Act.put, List.setIfInBounds_toArray, List.set]
  iterate 4
    first
    | (refine Lex.skip rfl ?_; simp only [Act.put, List.setIfInBounds_toArray, List.set])
    | (refine Lex.one' rfl rfl ?_
       apply Exists.intro
       refine ⟨fun w hR hF => ?_, ?_⟩
       · have hP := hR
         repeat (first | replace hP := Later.of_drew hP | replace hP := Later.of_drewN hP | replace hP := Later.of_alloc hP)
         have hcs := hR.cells
         clear hR hF hP
         go_simp
         first | done | rfl
       simp only [Act.put, List.setIfInBounds_toArray, List.set])
  refine Lex.anyEq rfl rfl (fun w hR hF => ?_) ?_
  · have hP := hR
    repeat (first | replace hP := Later.of_drew hP | replace hP := Later.of_drewN hP | replace hP := Later.of_alloc hP)
    have hcs := hR.cells
    clear hF hR
    unfold Runs
    go_simp
    unfold Yield
    refine (cmpN n1 n2 _).mono ?_
    rintro e w' ⟨rfl, rfl⟩
    exact ⟨_, rfl, Later.refl _, rfl⟩
  simp only [Act.put, List.setIfInBounds_toArray, List.set]
  iterate 4
    first
    | (refine Lex.skip rfl ?_; simp only [Act.put, List.setIfInBounds_toArray, List.set])
    | (refine Lex.one' rfl rfl ?_
       apply Exists.intro
       refine ⟨fun w hR hF => ?_, ?_⟩
       · have hP := hR
         repeat (first | replace hP := Later.of_drew hP | replace hP := Later.of_drewN hP | replace hP := Later.of_alloc hP)
         have hcs := hR.cells
         clear hR hF hP
         go_simp
         first | done | rfl
       simp only [Act.put, List.setIfInBounds_toArray, List.set])
  refine Lex.anyEq rfl rfl (fun w hR hF => ?_) ?_
  · have hP := hR
    repeat (first | replace hP := Later.of_drew hP | replace hP := Later.of_drewN hP | replace hP := Later.of_alloc hP)
    have hcs := hR.cells
    clear hF hR
    unfold Runs
    go_simp
    unfold Yield
    refine (Tryz.strings_Compare t1 t2 _).mono ?_
    rintro e w' ⟨rfl, rfl⟩
    exact ⟨_, rfl, Later.refl _, rfl⟩
  simp only [Act.put, List.setIfInBounds_toArray, List.set]
  refine Lex.any rfl rfl (fun w hR hF => ?_) ?_
  · clear hF hR
    unfold Runs
    go_simp
    exact yield_value (Later.alloc _ _) ⟨_, rfl, obj_new _ _⟩
  rintro v15 ⟨w2, hR2, hF2⟩
  obtain ⟨b, rfl, -⟩ := hF2 _ List.mem_cons_self _ rfl
  clear hF2 hR2 w2
  simp only [Act.put, List.setIfInBounds_toArray, List.set]
  refine Lex.anyEq rfl rfl (fun w hR hF => ?_) ?_
  · obtain ⟨b', hb, h15⟩ := hF _ List.mem_cons_self (by kernel_rfl) _ rfl
    simp only [Value.slice.injEq, Option.some.injEq, Addr.mk.injEq] at hb
    obtain ⟨⟨rfl, -, -⟩, -, -⟩ := hb
    clear hF hR
    unfold Runs
    go_simp
    refine yield_enter ?_
    refine (or_any b [cmpI k1 k2, cmpI n1 n2, Lib.compareBytes t1.data.toList t2.data.toList] 3 w (by simp) ?_).mono ?_
    · intro i hi
      exact cell_obj h15 (by simp only [List.getElem?_toArray, List.length_cons, List.length_nil] at hi ⊢; match i, hi with | 0, _ => rfl | 1, _ => rfl | 2, _ => rfl)
    · rintro e w' ⟨rfl, rfl⟩
      exact ⟨_, rfl, Later.refl _, rfl⟩
  simp only [Act.put, List.setIfInBounds_toArray, List.set]
  iterate 1
    first
    | (refine Lex.skip rfl ?_; simp only [Act.put, List.setIfInBounds_toArray, List.set])
    | (refine Lex.one' rfl rfl ?_
       apply Exists.intro
       refine ⟨fun w hR hF => ?_, ?_⟩
       · have hP := hR
         repeat (first | replace hP := Later.of_drew hP | replace hP := Later.of_drewN hP | replace hP := Later.of_alloc hP)
         have hcs := hR.cells
         clear hR hF hP
         go_simp
         first | done | rfl
       simp only [Act.put, List.setIfInBounds_toArray, List.set])
  intro w1 hR1 hF9
  clear hF9
  go_wp2
  go_ret
  repeat (first | replace hR1 := Later.of_drew hR1 | replace hR1 := Later.of_drewN hR1 | replace hR1 := Later.of_alloc hR1)
  exact ⟨rfl, hR1⟩

end Go.Proofs.YtgajofkeidjbgaaGreatDoor
namespace Go.Proofs.YtgajofkeidjbgaaGreatDoor
set_option linter.unusedSimpArgs false
set_option linter.unusedVariables false
open Go Go.RowKit

section
variable {P : Program} {Q : Exit → Act → World → Prop}
theorem inBlock_mono {id : Nat} {A B : Exit → Act → World → Prop} (h : ∀ e a w, A e a w → B e a w) : ∀ e a w, Exit.inBlock id A e a w → Exit.inBlock id B e a w := by
  intro e a w
  unfold Exit.inBlock
  cases e with
  | exit i =>
    simp only
    split
    · exact h _ _ _
    · exact h _ _ _
  | normal => exact h _ _ _
  | goto l => exact h _ _ _
  | ret => exact h _ _ _
  | panic ch => exact h _ _ _
  | outgrown => exact h _ _ _
theorem wp_block_frame' {s : Code} {id : Nat} {K : Act → World → Prop} {f : List Value} {w : World} (m : List Bool) (R R0 : (Nat → Value) → World → Prop) (hR : R = R0)
    (first : s.wp P (Exit.inBlock id (Exit.then (Meet m f R) Q)) ⟨f.toArray, []⟩ w) (rest : ∀ us wr, R0 us wr → K ⟨(frameOf us m 0 f).toArray, []⟩ wr) : s.wp P (Exit.inBlock id (Exit.then K Q)) ⟨f.toArray, []⟩ w := by
  subst hR
  refine wp_mono first ?_
  refine inBlock_mono ?_
  intro e a' w' hq
  cases e with
  | normal =>
    obtain ⟨l, rfl, h1, h2⟩ := hq
    have := rest (slots l) w' h2
    rwa [h1] at this
  | exit id => exact hq
  | goto l => exact hq
  | ret => exact hq
  | panic ch => exact hq
  | outgrown => exact hq
end
end Go.Proofs.YtgajofkeidjbgaaGreatDoor
namespace Go.Proofs.YtgajofkeidjbgaaGreatDoor
set_option linter.unusedSimpArgs false
set_option linter.unusedVariables false
open Go.RowKit

def readE : Value := .iface 29 (.int .i64 1)
/-- a value written into a block. -/
def setV (w : World) (R : Nat) (x : Val) : World := ((w.setCell ⟨R, 0, none⟩ (.int .i64 x.k)).setCell ⟨R, 1, none⟩ (.int .i64 x.n)).setCell ⟨R, 2, none⟩ (.string x.t)
theorem setV_later {w0 w : World} (h : Later w0 w) {R : Nat} (hR : w0.heap.size ≤ R) (x : Val) : Later w0 (setV w R x) := ((h.new (p := ⟨R, 0, none⟩) hR _).new (p := ⟨R, 1, none⟩) hR _).new (p := ⟨R, 2, none⟩) hR _
def VObj (w : World) (R : Nat) (x : Val) : Prop := w.heap[R]? = some (.cells #[.int .i64 x.k, .int .i64 x.n, .string x.t] 38 (0, 0))
theorem VObj.set {w : World} {R : Nat} {y : Val} (h : VObj w R y) (x : Val) : VObj (setV w R x) R x := obj_setCell (i := 2) (obj_setCell (i := 1) (obj_setCell (i := 0) h (.int .i64 x.k)) (.int .i64 x.n)) (.string x.t)
theorem VObj.keep {w : World} {R S : Nat} {y z : Val} (h : VObj w R y) (hne : S ≠ R) : VObj (setV w S z) R y := by
  unfold VObj setV
  exact (((Keeps.refl (fun b => b ≠ S) w).setCell (p := ⟨S, 0, none⟩) (.inl fun h => h rfl) _).setCell (p := ⟨S, 1, none⟩) (.inl fun h => h rfl) _ |>.setCell (p := ⟨S, 2, none⟩) (.inl fun h => h rfl) _).obj (fun e => hne e.symm) h
def ValueTo' (x : Val) (w : World) (e : Ending) (w' : World) : Prop := e = .returned x.v ∧ Later w w'
theorem vof_any (n : Int) (w : World) : Calls Tryz.prog 90 #[.int .i64 n] w (ValueTo' ⟨1, n, ByteArray.empty⟩ w) := by
  go_enter Tryz.func90, Tryz.ntmps90
  go_wp2_with fail
  exact bodyPost_ret (v := .agg #[.int .i64 1, .int .i64 n, .string ⟨#[]⟩]) (by simp [results, Tryz.results90, go_sem]) rfl ⟨rfl, Later.alloc _ _⟩
theorem vtruth_any (b : Bool) (w : World) : Calls Tryz.prog 89 #[.bool b] w (ValueTo' ⟨2, if b = true then 1 else 0, ByteArray.empty⟩ w) := by
  cases b
  ·
    go_enter Tryz.func89, Tryz.ntmps89
    go_wp2_with fail
    exact bodyPost_ret (v := .agg #[.int .i64 2, .int .i64 0, .string ⟨#[]⟩]) (by simp [results, Tryz.results89, go_sem]) rfl ⟨rfl, (Later.alloc _ _).alloc' _⟩
  ·
    go_enter Tryz.func89, Tryz.ntmps89
    go_wp2_with fail
    exact bodyPost_ret (v := .agg #[.int .i64 2, .int .i64 1, .string ⟨#[]⟩]) (by simp [results, Tryz.results89, go_sem]) rfl ⟨rfl, (Later.alloc _ _).alloc' _⟩
theorem vwords_any (t : ByteArray) (w : World) : Calls Tryz.prog 106 #[.string t] w (ValueTo' ⟨3, 0, t⟩ w) := by
  go_enter Tryz.func106, Tryz.ntmps106
  go_wp2_with fail
  exact bodyPost_ret (v := .agg #[.int .i64 3, .int .i64 0, .string t]) (by simp [results, Tryz.results106, go_sem]) rfl ⟨rfl, Later.alloc _ _⟩

def ValRead (w : World) (l : List UInt8) (e : Ending) (w' : World) : Prop := Later w w' ∧ e = .returned (.tuple #[((readP l).getD nothing).v, if (readP l).isSome = true then .nilIface else readE])
theorem parse_int (l : List UInt8) (w : World) (hs : l.length ≤ 140737488351232) (hE : ErrVars w) : Calls Tryz.prog 131 #[.string (strB l), .int .i64 10, .int .i64 64] w fun e w' => Later w w' ∧ ∃ (n : Int) (er : Value), e = .returned (.tuple #[.int .i64 n, er]) ∧ ((Lib.parseIntB 64 l = .ok n ∧ er = .nilIface) ∨ ((∀ n, Lib.parseIntB 64 l ≠ .ok n) ∧ ∃ N, er = numE N)) := by
  have hsz : (strB l).size = l.length := strB_size l
  obtain ⟨⟨t1, p1, h1⟩, t2, p2, h2⟩ := hE
  cases hp : Lib.parseIntB 64 l with
  | ok n =>
    refine (Tryz.strconv_ParseInt_10_at64_ok (strB l) (by omega) n hp w).mono ?_
    rintro e w' ⟨rfl, hw⟩
    refine ⟨?_, n, .nilIface, rfl, .inl ⟨rfl, rfl⟩⟩
    rcases hw with rfl | ⟨t, rfl⟩
    · exact Later.refl _
    · exact Lib.bytesWorld_below _ _ _
  | range =>
    refine (Tryz.strconv_ParseInt_10_at64_range (strB l) (by omega) hp _ w h2 (.inr ⟨_, _, rfl⟩)).mono ?_
    rintro e w' ⟨N, rfl, -, -, hB⟩
    exact ⟨hB, _, _, rfl, .inr ⟨fun n => (fun h => by cases h), N, rfl⟩⟩
  | _ =>
    refine (Tryz.strconv_ParseInt_10_at64_syntax (strB l) (by omega) hp _ w h1 (.inr ⟨_, _, rfl⟩)).mono ?_
    rintro e w' ⟨N, rfl, -, -, hB⟩
    exact ⟨hB, 0, _, rfl, .inr ⟨fun n => (fun h => by cases h), N, rfl⟩⟩

theorem tl_true : (strB trueL).toList = [116, 114, 117, 101] := by decide +kernel
theorem tl_false : (strB falseL).toList = [102, 97, 108, 115, 101] := by decide +kernel
theorem tt_true : ((strB trueL).toList == [116, 114, 117, 101]) = true := by decide +kernel
theorem tt_false : ((strB falseL).toList == [102, 97, 108, 115, 101]) = true := by decide +kernel
theorem tt_ft : ((strB falseL).toList == [116, 114, 117, 101]) = false := by decide +kernel
theorem val_ok {w w' : World} {l : List UInt8} {x : Val} (h : readP l = some x) (hL : Later w w') : ValRead w l (.returned (.tuple #[x.v, .nilIface])) w' := ⟨hL, by rw [h]; rfl⟩
theorem val_no {w w' : World} {l : List UInt8} (h : readP l = none) (hL : Later w w') : ValRead w l (.returned (.tuple #[nothing.v, readE])) w' := ⟨hL, by rw [h]; rfl⟩
theorem guess_cases (l : List UInt8) : (∃ n, Lib.parseIntB 64 l = .ok n ∧ guessP l = ⟨1, n, ByteArray.empty⟩) ∨ ((∀ n, Lib.parseIntB 64 l ≠ .ok n) ∧ guessP l = if l = trueL ∨ l = falseL then ⟨2, if l = trueL then 1 else 0, ByteArray.empty⟩ else if 1 < l.length ∧ l.head? = some 39 then textV (unqG hexP (innerL l)) else nothing) := by
  unfold guessP
  cases h : Lib.parseIntB 64 l with
  | ok n => exact .inl ⟨n, rfl, rfl⟩
  | range => exact .inr ⟨(fun n e => by cases e), rfl⟩
  | _ => exact .inr ⟨(fun n e => by cases e), rfl⟩
theorem lit_ok {x : Val} (h : IntOk x) : (Lit.int .i64 x.n).wf = true := by
  have h1 := h.1
  have h2 := h.2
  simp [Lit.wf, IntKind.min, IntKind.max, IntKind.bits, IntKind.signed]
  omega
theorem VObj.later {w w' : World} {R : Nat} {x : Val} (h : VObj w R x) (k : Later w w') : VObj w' R x := k.obj h
theorem VObj.c0 {w : World} {R : Nat} {x : Val} (h : VObj w R x) : w.cell? ⟨R, 0, none⟩ = some (.int .i64 x.k) := cell_obj (i := 0) h rfl
theorem VObj.c1 {w : World} {R : Nat} {x : Val} (h : VObj w R x) : w.cell? ⟨R, 1, none⟩ = some (.int .i64 x.n) := cell_obj (i := 1) h rfl
theorem VObj.c2 {w : World} {R : Nat} {x : Val} (h : VObj w R x) : w.cell? ⟨R, 2, none⟩ = some (.string x.t) := cell_obj (i := 2) h rfl
theorem VObj.free {w : World} {R : Nat} {x : Val} (h : VObj w R x) (i : Nat) : w.frozen? ⟨R, i, none⟩ = false := free_obj h
set_option maxRecDepth 100000 in
set_option maxHeartbeats 4000000 in
theorem vread_any (l : List UInt8) (w : World) (hs : l.length ≤ 140737488351232) (hE : ErrVars w) (ht : PowTab w) : Calls Tryz.prog 115 #[.string (strB l)] w (ValRead w l) := by
  have HS := hid hs; have HE := hid hE; have HT := hid ht
  clear hs hE ht
  go_enter Tryz.func115, Tryz.ntmps115
  go_upto_region 2 with (fail)
  obtain ⟨w0, hw0⟩ : ∃ w0, w0 = (w.alloc (.cells #[.int .i64 0, .int .i64 0, .string ⟨#[]⟩] 38 (0, 0))).alloc (.cells #[.int .i64 0, .int .i64 0, .string ⟨#[]⟩] 38 (0, 0)) := ⟨_, rfl⟩
  obtain ⟨R, hR⟩ : ∃ R, R = w.heap.size := ⟨_, rfl⟩
  obtain ⟨V, hV⟩ : ∃ V, V = w.heap.size + 1 := ⟨_, rfl⟩
  have HL0 : Hid (Later w w0) := hid (by rw [hw0]; exact (Later.alloc _ _).alloc' _)
  have HR0 : Hid (VObj w0 R nothing) := hid (by rw [hw0, hR]; exact (Later.alloc _ _).obj (obj_new w _))
  have HV0 : Hid (VObj w0 V nothing) := hid (by
    have h := obj_new (w.alloc (.cells #[.int .i64 0, .int .i64 0, .string ⟨#[]⟩] 38 (0, 0))) (.cells #[.int .i64 0, .int .i64 0, .string ⟨#[]⟩] 38 (0, 0))
    rw [World.size_alloc, ← hV, ← hw0] at h
    exact h)
  have HRV : Hid (w.heap.size = R ∧ V = R + 1) := hid ⟨hR.symm, by omega⟩
  have HWR := hid hR
  rw [← hw0, ← hV, ← hR]
  clear hw0 hV hR
  go_wp2_with fail
  refine (parse_int l w0 HS.out (HE.out.later HL0.out)).mono ?_
  rintro e w1 ⟨hL1, n, er, rfl, hcase⟩
  have HL1 := hid (Later.trans _ _ _ HL0.out hL1)
  have HR1 := hid (HR0.out.later hL1)
  have HV1 := hid (HV0.out.later hL1)
  have HRlt : Hid (w.heap.size ≤ V ∧ w.heap.size ≤ R ∧ V ≠ R) := hid ⟨by have := HRV.out; omega, by have := HRV.out; omega, by have := HRV.out; omega⟩
  clear hL1 HR0 HV0 HL0
  have hgc := guess_cases l
  rcases hcase with ⟨hp, rfl⟩ | ⟨hp, N, rfl⟩
  · have HG : Hid (guessP l = ⟨1, n, ByteArray.empty⟩) := hid (by
      rcases hgc with ⟨k, h1, h2⟩ | ⟨h1, -⟩
      · rw [hp] at h1; injection h1 with h1; rw [h2, h1]
      · exact absurd hp (h1 n))
    clear hgc hp
    go_wp2_with fail
    refine (vof_any n _).mono ?_
    rintro e w2 ⟨rfl, hL2⟩
    have HL2 := hid (Later.trans _ _ _ HL1.out hL2)
    have HR2 := hid (HR1.out.later hL2)
    have HV2 := hid (HV1.out.later hL2)
    have q0 := HV2.out.c0; have q1 := HV2.out.c1; have q2 := HV2.out.c2
    have f0 := HV2.out.free 0; have f1 := HV2.out.free 1; have f2 := HV2.out.free 2
    have hlt := cell_lt q0
    clear hL2
    go_upto_region 9 with (fail)
    obtain ⟨wy, hwy⟩ : ∃ wy, wy = setV w2 V ⟨1, n, ByteArray.empty⟩ := ⟨_, rfl⟩
    change Code.wp _ _ _ _ (setV w2 V ⟨1, n, ByteArray.empty⟩)
    have HLY : Hid (Later w wy) := hid (by rw [hwy]; exact setV_later HL2.out HRlt.out.1 _)
    have HVY : Hid (VObj wy V ⟨1, n, ByteArray.empty⟩) := hid (by rw [hwy]; exact HV2.out.set _)
    have HRY : Hid (VObj wy R nothing) := hid (by rw [hwy]; exact HR2.out.keep HRlt.out.2.2)
    rw [← hwy]
    clear hwy q0 q1 q2 f0 f1 f2 hlt
    have q0 := HVY.out.c0; have q1 := HVY.out.c1; have q2 := HVY.out.c2
    have hlt := cell_lt q0
    go_wp2_with fail
    refine (show_any ⟨1, n, ByteArray.empty⟩ _ (lit_ok (by rw [← HG.out]; exact guess_ok l)) (HT.out.later HLY.out)).mono ?_
    rintro e w5 ⟨rfl, hL5⟩
    have HL5 := hid (Later.trans _ _ _ HLY.out hL5)
    have HV5 := hid (HVY.out.later hL5)
    have HR5 := hid (HRY.out.later hL5)
    replace q0 := HV5.out.c0; replace q1 := HV5.out.c1; replace q2 := HV5.out.c2
    have p0 := HR5.out.c0; have p1 := HR5.out.c1; have p2 := HR5.out.c2
    have f0 := HR5.out.free 0; have f1 := HR5.out.free 1; have f2 := HR5.out.free 2
    have hltR := cell_lt p0
    have hltV := cell_lt q0
    clear hL5 hlt
    by_cases hsh : showV ⟨1, n, ByteArray.empty⟩ = l
    · have HSH : Hid (readP l = some ⟨1, n, ByteArray.empty⟩) := hid (by unfold readP; rw [HG.out, if_pos hsh])
      have hst := str_eq hsh
      clear hsh
      go_wp2_with fail
      obtain ⟨wf, hwf⟩ : ∃ wf, wf = setV w5 R ⟨1, n, ByteArray.empty⟩ := ⟨_, rfl⟩
      have HW := HR5.out.set ⟨1, n, ByteArray.empty⟩
      have HLF := setV_later HL5.out HRlt.out.2.1 ⟨1, n, ByteArray.empty⟩
      rw [← hwf] at HW HLF
      have e0 := HW.c0; have e1 := HW.c1; have e2 := HW.c2
      change bodyPost _ _ _ _ _ (setV w5 R ⟨1, n, ByteArray.empty⟩)
      rw [← hwf]
      clear hwf p0 p1 p2 f0 f1 f2 q0 q1 q2
      exact bodyPost_ret (v := .tuple #[Val.v ⟨1, n, ByteArray.empty⟩, .nilIface]) (by simp [results, Tryz.results115, go_sem, e0, e1, e2, readE] <;> rfl) rfl (val_ok HSH.out HLF)
    · have HSH : Hid (readP l = none) := hid (by unfold readP; rw [HG.out, if_neg hsh])
      have hst := str_ne hsh
      clear hsh
      go_wp2_with fail
      obtain ⟨wf, hwf⟩ : ∃ wf, wf = setV w5 R nothing := ⟨_, rfl⟩
      have HW := HR5.out.set nothing
      have HLF := setV_later HL5.out HRlt.out.2.1 nothing
      rw [← hwf] at HW HLF
      have e0 := HW.c0; have e1 := HW.c1; have e2 := HW.c2
      change bodyPost _ _ _ _ _ (setV w5 R nothing)
      rw [← hwf]
      clear hwf p0 p1 p2 f0 f1 f2 q0 q1 q2
      exact bodyPost_ret (v := .tuple #[Val.v nothing, readE]) (by simp [results, Tryz.results115, go_sem, e0, e1, e2, readE] <;> rfl) rfl (val_no HSH.out HLF)
  · have hgi : guessP l = if l = trueL ∨ l = falseL then ⟨2, if l = trueL then 1 else 0, ByteArray.empty⟩ else if 1 < l.length ∧ l.head? = some 39 then textV (unqG hexP (innerL l)) else nothing := by
      rcases hgc with ⟨k, h1, h2⟩ | ⟨-, h2⟩
      · exact absurd h1 (hp k)
      · exact h2
    clear hgc hp
    unfold numE
    by_cases hT : l = trueL
    · have HG : Hid (guessP l = ⟨2, 1, ByteArray.empty⟩) := hid (by rw [hgi, if_pos (.inl hT), if_pos hT])
      have hs1 : ((strB l).toList == [116, 114, 117, 101]) = true := by rw [hT]; exact tt_true
      clear hgi hT
      go_wp2_with fail
      refine (vtruth_any true _).mono ?_
      rintro e w2 ⟨rfl, hL2⟩
      rw [if_pos rfl]
      have HL2 := hid (Later.trans _ _ _ HL1.out hL2)
      have HR2 := hid (HR1.out.later hL2)
      have HV2 := hid (HV1.out.later hL2)
      have q0 := HV2.out.c0; have q1 := HV2.out.c1; have q2 := HV2.out.c2
      have f0 := HV2.out.free 0; have f1 := HV2.out.free 1; have f2 := HV2.out.free 2
      have hlt := cell_lt q0
      clear hL2
      go_upto_region 9 with (fail)
      obtain ⟨wy, hwy⟩ : ∃ wy, wy = setV w2 V ⟨2, 1, ByteArray.empty⟩ := ⟨_, rfl⟩
      change Code.wp _ _ _ _ (setV w2 V ⟨2, 1, ByteArray.empty⟩)
      have HLY : Hid (Later w wy) := hid (by rw [hwy]; exact setV_later HL2.out HRlt.out.1 _)
      have HVY : Hid (VObj wy V ⟨2, 1, ByteArray.empty⟩) := hid (by rw [hwy]; exact HV2.out.set _)
      have HRY : Hid (VObj wy R nothing) := hid (by rw [hwy]; exact HR2.out.keep HRlt.out.2.2)
      rw [← hwy]
      clear hwy q0 q1 q2 f0 f1 f2 hlt
      have q0 := HVY.out.c0; have q1 := HVY.out.c1; have q2 := HVY.out.c2
      have hlt := cell_lt q0
      go_wp2_with fail
      refine (show_any ⟨2, 1, ByteArray.empty⟩ _ (lit_ok (by rw [← HG.out]; exact guess_ok l)) (HT.out.later HLY.out)).mono ?_
      rintro e w5 ⟨rfl, hL5⟩
      have HL5 := hid (Later.trans _ _ _ HLY.out hL5)
      have HV5 := hid (HVY.out.later hL5)
      have HR5 := hid (HRY.out.later hL5)
      replace q0 := HV5.out.c0; replace q1 := HV5.out.c1; replace q2 := HV5.out.c2
      have p0 := HR5.out.c0; have p1 := HR5.out.c1; have p2 := HR5.out.c2
      have f0 := HR5.out.free 0; have f1 := HR5.out.free 1; have f2 := HR5.out.free 2
      have hltR := cell_lt p0
      have hltV := cell_lt q0
      clear hL5 hlt
      by_cases hsh : showV ⟨2, 1, ByteArray.empty⟩ = l
      · have HSH : Hid (readP l = some ⟨2, 1, ByteArray.empty⟩) := hid (by unfold readP; rw [HG.out, if_pos hsh])
        have hst := str_eq hsh
        clear hsh
        go_wp2_with fail
        obtain ⟨wf, hwf⟩ : ∃ wf, wf = setV w5 R ⟨2, 1, ByteArray.empty⟩ := ⟨_, rfl⟩
        have HW := HR5.out.set ⟨2, 1, ByteArray.empty⟩
        have HLF := setV_later HL5.out HRlt.out.2.1 ⟨2, 1, ByteArray.empty⟩
        rw [← hwf] at HW HLF
        have e0 := HW.c0; have e1 := HW.c1; have e2 := HW.c2
        change bodyPost _ _ _ _ _ (setV w5 R ⟨2, 1, ByteArray.empty⟩)
        rw [← hwf]
        clear hwf p0 p1 p2 f0 f1 f2 q0 q1 q2
        exact bodyPost_ret (v := .tuple #[Val.v ⟨2, 1, ByteArray.empty⟩, .nilIface]) (by simp [results, Tryz.results115, go_sem, e0, e1, e2, readE] <;> rfl) rfl (val_ok HSH.out HLF)
      · have HSH : Hid (readP l = none) := hid (by unfold readP; rw [HG.out, if_neg hsh])
        have hst := str_ne hsh
        clear hsh
        go_wp2_with fail
        obtain ⟨wf, hwf⟩ : ∃ wf, wf = setV w5 R nothing := ⟨_, rfl⟩
        have HW := HR5.out.set nothing
        have HLF := setV_later HL5.out HRlt.out.2.1 nothing
        rw [← hwf] at HW HLF
        have e0 := HW.c0; have e1 := HW.c1; have e2 := HW.c2
        change bodyPost _ _ _ _ _ (setV w5 R nothing)
        rw [← hwf]
        clear hwf p0 p1 p2 f0 f1 f2 q0 q1 q2
        exact bodyPost_ret (v := .tuple #[Val.v nothing, readE]) (by simp [results, Tryz.results115, go_sem, e0, e1, e2, readE] <;> rfl) rfl (val_no HSH.out HLF)
    by_cases hF : l = falseL
    · have HG : Hid (guessP l = ⟨2, 0, ByteArray.empty⟩) := hid (by rw [hgi, if_pos (.inr hF), if_neg hT])
      have hs1 : ((strB l).toList == [116, 114, 117, 101]) = false := by rw [hF]; exact tt_ft
      have hs2 : ((strB l).toList == [102, 97, 108, 115, 101]) = true := by rw [hF]; exact tt_false
      clear hgi hT hF
      go_wp2_with fail
      refine (vtruth_any false _).mono ?_
      rintro e w2 ⟨rfl, hL2⟩
      rw [if_neg (by decide)]
      have HL2 := hid (Later.trans _ _ _ HL1.out hL2)
      have HR2 := hid (HR1.out.later hL2)
      have HV2 := hid (HV1.out.later hL2)
      have q0 := HV2.out.c0; have q1 := HV2.out.c1; have q2 := HV2.out.c2
      have f0 := HV2.out.free 0; have f1 := HV2.out.free 1; have f2 := HV2.out.free 2
      have hlt := cell_lt q0
      clear hL2
      go_upto_region 9 with (fail)
      obtain ⟨wy, hwy⟩ : ∃ wy, wy = setV w2 V ⟨2, 0, ByteArray.empty⟩ := ⟨_, rfl⟩
      change Code.wp _ _ _ _ (setV w2 V ⟨2, 0, ByteArray.empty⟩)
      have HLY : Hid (Later w wy) := hid (by rw [hwy]; exact setV_later HL2.out HRlt.out.1 _)
      have HVY : Hid (VObj wy V ⟨2, 0, ByteArray.empty⟩) := hid (by rw [hwy]; exact HV2.out.set _)
      have HRY : Hid (VObj wy R nothing) := hid (by rw [hwy]; exact HR2.out.keep HRlt.out.2.2)
      rw [← hwy]
      clear hwy q0 q1 q2 f0 f1 f2 hlt
      have q0 := HVY.out.c0; have q1 := HVY.out.c1; have q2 := HVY.out.c2
      have hlt := cell_lt q0
      go_wp2_with fail
      refine (show_any ⟨2, 0, ByteArray.empty⟩ _ (lit_ok (by rw [← HG.out]; exact guess_ok l)) (HT.out.later HLY.out)).mono ?_
      rintro e w5 ⟨rfl, hL5⟩
      have HL5 := hid (Later.trans _ _ _ HLY.out hL5)
      have HV5 := hid (HVY.out.later hL5)
      have HR5 := hid (HRY.out.later hL5)
      replace q0 := HV5.out.c0; replace q1 := HV5.out.c1; replace q2 := HV5.out.c2
      have p0 := HR5.out.c0; have p1 := HR5.out.c1; have p2 := HR5.out.c2
      have f0 := HR5.out.free 0; have f1 := HR5.out.free 1; have f2 := HR5.out.free 2
      have hltR := cell_lt p0
      have hltV := cell_lt q0
      clear hL5 hlt
      by_cases hsh : showV ⟨2, 0, ByteArray.empty⟩ = l
      · have HSH : Hid (readP l = some ⟨2, 0, ByteArray.empty⟩) := hid (by unfold readP; rw [HG.out, if_pos hsh])
        have hst := str_eq hsh
        clear hsh
        go_wp2_with fail
        obtain ⟨wf, hwf⟩ : ∃ wf, wf = setV w5 R ⟨2, 0, ByteArray.empty⟩ := ⟨_, rfl⟩
        have HW := HR5.out.set ⟨2, 0, ByteArray.empty⟩
        have HLF := setV_later HL5.out HRlt.out.2.1 ⟨2, 0, ByteArray.empty⟩
        rw [← hwf] at HW HLF
        have e0 := HW.c0; have e1 := HW.c1; have e2 := HW.c2
        change bodyPost _ _ _ _ _ (setV w5 R ⟨2, 0, ByteArray.empty⟩)
        rw [← hwf]
        clear hwf p0 p1 p2 f0 f1 f2 q0 q1 q2
        exact bodyPost_ret (v := .tuple #[Val.v ⟨2, 0, ByteArray.empty⟩, .nilIface]) (by simp [results, Tryz.results115, go_sem, e0, e1, e2, readE] <;> rfl) rfl (val_ok HSH.out HLF)
      · have HSH : Hid (readP l = none) := hid (by unfold readP; rw [HG.out, if_neg hsh])
        have hst := str_ne hsh
        clear hsh
        go_wp2_with fail
        obtain ⟨wf, hwf⟩ : ∃ wf, wf = setV w5 R nothing := ⟨_, rfl⟩
        have HW := HR5.out.set nothing
        have HLF := setV_later HL5.out HRlt.out.2.1 nothing
        rw [← hwf] at HW HLF
        have e0 := HW.c0; have e1 := HW.c1; have e2 := HW.c2
        change bodyPost _ _ _ _ _ (setV w5 R nothing)
        rw [← hwf]
        clear hwf p0 p1 p2 f0 f1 f2 q0 q1 q2
        exact bodyPost_ret (v := .tuple #[Val.v nothing, readE]) (by simp [results, Tryz.results115, go_sem, e0, e1, e2, readE] <;> rfl) rfl (val_no HSH.out HLF)
    have hs1 : ((strB l).toList == [116, 114, 117, 101]) = false := by have h := str_ne hT; rwa [tl_true] at h
    have hs2 : ((strB l).toList == [102, 97, 108, 115, 101]) = false := by have h := str_ne hF; rwa [tl_false] at h
    have hor : ¬ (l = trueL ∨ l = falseL) := by simp [hT, hF]
    rw [if_neg hor] at hgi
    clear hT hF hor
    have hz : (strB l).size = l.length := strB_size l
    by_cases h1 : 1 < l.length
    · obtain ⟨c, r, rfl⟩ : ∃ c r, l = c :: r := by
        cases l with
        | nil => simp at h1
        | cons c r => exact ⟨c, r, rfl⟩
      have hix := fun w => run_idx0 w c r
      obtain ⟨m, hm⟩ : ∃ m, m = c.toNat := ⟨_, rfl⟩
      have HM := hid hm
      rw [← hm] at hix
      clear hm
      by_cases h39 : m = 39
      · have hc : c = 39 := UInt8.toNat_inj.1 (by rw [← HM.out, h39]; rfl)
        have HG : Hid (guessP (c :: r) = ⟨3, 0, strB (unqG hexP (innerL (c :: r)))⟩) := hid (by rw [hgi, if_pos ⟨h1, by rw [hc]; rfl⟩]; rfl)
        subst h39
        clear hgi hc
        have hw : wrap64 (r.length : Int) = r.length := by have := HS.out; simp only [List.length_cons] at this; unfold wrap64; omega
        have hr1 : 1 ≤ (r.length : Int) := by simp only [List.length_cons] at h1; omega
        have hr2 : (r.length : Int) ≤ (r.length : Int) + 1 := by omega
        have hex : (strB (c :: r)).extract 1 r.length = strB (innerL (c :: r)) := by rw [strB_cut]; unfold innerL; congr 2
        go_wp2_with fail
        refine (unquote_any (innerL (c :: r)) _ (by unfold innerL; rw [List.length_take]; have := HS.out; omega) (HE.out.later HL1.out)).mono ?_
        rintro e w2 ⟨rfl, hL2⟩
        have HL1 := hid (Later.trans _ _ _ HL1.out hL2)
        have HR1 := hid (HR1.out.later hL2)
        have HV1 := hid (HV1.out.later hL2)
        clear hL2 hex hr1 hr2 hw
        go_wp2_with fail
        refine (vwords_any _ _).mono ?_
        rintro e w2 ⟨rfl, hL2⟩
        have HL2 := hid (Later.trans _ _ _ HL1.out hL2)
        have HR2 := hid (HR1.out.later hL2)
        have HV2 := hid (HV1.out.later hL2)
        have q0 := HV2.out.c0; have q1 := HV2.out.c1; have q2 := HV2.out.c2
        have f0 := HV2.out.free 0; have f1 := HV2.out.free 1; have f2 := HV2.out.free 2
        have hlt := cell_lt q0
        clear hL2
        go_upto_region 9 with (fail)
        obtain ⟨wy, hwy⟩ : ∃ wy, wy = setV w2 V ⟨3, 0, strB (unqG hexP (innerL (c :: r)))⟩ := ⟨_, rfl⟩
        change Code.wp _ _ _ _ (setV w2 V ⟨3, 0, strB (unqG hexP (innerL (c :: r)))⟩)
        have HLY : Hid (Later w wy) := hid (by rw [hwy]; exact setV_later HL2.out HRlt.out.1 _)
        have HVY : Hid (VObj wy V ⟨3, 0, strB (unqG hexP (innerL (c :: r)))⟩) := hid (by rw [hwy]; exact HV2.out.set _)
        have HRY : Hid (VObj wy R nothing) := hid (by rw [hwy]; exact HR2.out.keep HRlt.out.2.2)
        rw [← hwy]
        clear hwy q0 q1 q2 f0 f1 f2 hlt
        have q0 := HVY.out.c0; have q1 := HVY.out.c1; have q2 := HVY.out.c2
        have hlt := cell_lt q0
        go_wp2_with fail
        refine (show_any ⟨3, 0, strB (unqG hexP (innerL (c :: r)))⟩ _ (lit_ok (by rw [← HG.out]; exact guess_ok (c :: r))) (HT.out.later HLY.out)).mono ?_
        rintro e w5 ⟨rfl, hL5⟩
        have HL5 := hid (Later.trans _ _ _ HLY.out hL5)
        have HV5 := hid (HVY.out.later hL5)
        have HR5 := hid (HRY.out.later hL5)
        replace q0 := HV5.out.c0; replace q1 := HV5.out.c1; replace q2 := HV5.out.c2
        have p0 := HR5.out.c0; have p1 := HR5.out.c1; have p2 := HR5.out.c2
        have f0 := HR5.out.free 0; have f1 := HR5.out.free 1; have f2 := HR5.out.free 2
        have hltR := cell_lt p0
        have hltV := cell_lt q0
        clear hL5 hlt
        by_cases hsh : showV ⟨3, 0, strB (unqG hexP (innerL (c :: r)))⟩ = c :: r
        · have HSH : Hid (readP (c :: r) = some ⟨3, 0, strB (unqG hexP (innerL (c :: r)))⟩) := hid (by unfold readP; rw [HG.out, if_pos hsh])
          have hst := str_eq hsh
          clear hsh
          go_wp2_with fail
          obtain ⟨wf, hwf⟩ : ∃ wf, wf = setV w5 R ⟨3, 0, strB (unqG hexP (innerL (c :: r)))⟩ := ⟨_, rfl⟩
          have HW := HR5.out.set ⟨3, 0, strB (unqG hexP (innerL (c :: r)))⟩
          have HLF := setV_later HL5.out HRlt.out.2.1 ⟨3, 0, strB (unqG hexP (innerL (c :: r)))⟩
          rw [← hwf] at HW HLF
          have e0 := HW.c0; have e1 := HW.c1; have e2 := HW.c2
          change bodyPost _ _ _ _ _ (setV w5 R ⟨3, 0, strB (unqG hexP (innerL (c :: r)))⟩)
          rw [← hwf]
          clear hwf p0 p1 p2 f0 f1 f2 q0 q1 q2
          exact bodyPost_ret (v := .tuple #[Val.v ⟨3, 0, strB (unqG hexP (innerL (c :: r)))⟩, .nilIface]) (by simp [results, Tryz.results115, go_sem, e0, e1, e2, readE] <;> rfl) rfl (val_ok HSH.out HLF)
        · have HSH : Hid (readP (c :: r) = none) := hid (by unfold readP; rw [HG.out, if_neg hsh])
          have hst := str_ne hsh
          clear hsh
          go_wp2_with fail
          obtain ⟨wf, hwf⟩ : ∃ wf, wf = setV w5 R nothing := ⟨_, rfl⟩
          have HW := HR5.out.set nothing
          have HLF := setV_later HL5.out HRlt.out.2.1 nothing
          rw [← hwf] at HW HLF
          have e0 := HW.c0; have e1 := HW.c1; have e2 := HW.c2
          change bodyPost _ _ _ _ _ (setV w5 R nothing)
          rw [← hwf]
          clear hwf p0 p1 p2 f0 f1 f2 q0 q1 q2
          exact bodyPost_ret (v := .tuple #[Val.v nothing, readE]) (by simp [results, Tryz.results115, go_sem, e0, e1, e2, readE] <;> rfl) rfl (val_no HSH.out HLF)
      · have HG : Hid (guessP (c :: r) = nothing) := hid (by rw [hgi, if_neg (fun h => h39 (by rw [HM.out]; have := h.2; simp only [List.head?_cons, Option.some.injEq] at this; rw [this]; rfl))])
        have h39' : ¬ (m : Int) = 39 := by omega
        have h1' : (1 : Int) < (r.length : Int) + 1 := by simp only [List.length_cons] at h1; omega
        clear hgi
        go_upto_region 9 with (fail)
        obtain ⟨wy, hwy⟩ : ∃ wy, wy = w1 := ⟨_, rfl⟩
        have HLY : Hid (Later w wy) := hid (by rw [hwy]; exact HL1.out)
        have HVY : Hid (VObj wy V nothing) := hid (by rw [hwy]; exact HV1.out)
        have HRY : Hid (VObj wy R nothing) := hid (by rw [hwy]; exact HR1.out)
        rw [← hwy]
        clear hwy
        have q0 := HVY.out.c0; have q1 := HVY.out.c1; have q2 := HVY.out.c2
        have hlt := cell_lt q0
        go_wp2_with fail
        refine (show_any nothing _ (lit_ok (by rw [← HG.out]; exact guess_ok (c :: r))) (HT.out.later HLY.out)).mono ?_
        rintro e w5 ⟨rfl, hL5⟩
        have HL5 := hid (Later.trans _ _ _ HLY.out hL5)
        have HV5 := hid (HVY.out.later hL5)
        have HR5 := hid (HRY.out.later hL5)
        replace q0 := HV5.out.c0; replace q1 := HV5.out.c1; replace q2 := HV5.out.c2
        have p0 := HR5.out.c0; have p1 := HR5.out.c1; have p2 := HR5.out.c2
        have f0 := HR5.out.free 0; have f1 := HR5.out.free 1; have f2 := HR5.out.free 2
        have hltR := cell_lt p0
        have hltV := cell_lt q0
        clear hL5 hlt
        by_cases hsh : showV nothing = c :: r
        · have HSH : Hid (readP (c :: r) = some nothing) := hid (by unfold readP; rw [HG.out, if_pos hsh])
          have hst := str_eq hsh
          clear hsh
          go_wp2_with fail
          obtain ⟨wf, hwf⟩ : ∃ wf, wf = setV w5 R nothing := ⟨_, rfl⟩
          have HW := HR5.out.set nothing
          have HLF := setV_later HL5.out HRlt.out.2.1 nothing
          rw [← hwf] at HW HLF
          have e0 := HW.c0; have e1 := HW.c1; have e2 := HW.c2
          change bodyPost _ _ _ _ _ (setV w5 R nothing)
          rw [← hwf]
          clear hwf p0 p1 p2 f0 f1 f2 q0 q1 q2
          exact bodyPost_ret (v := .tuple #[Val.v nothing, .nilIface]) (by simp [results, Tryz.results115, go_sem, e0, e1, e2, readE] <;> rfl) rfl (val_ok HSH.out HLF)
        · have HSH : Hid (readP (c :: r) = none) := hid (by unfold readP; rw [HG.out, if_neg hsh])
          have hst := str_ne hsh
          clear hsh
          go_wp2_with fail
          obtain ⟨wf, hwf⟩ : ∃ wf, wf = setV w5 R nothing := ⟨_, rfl⟩
          have HW := HR5.out.set nothing
          have HLF := setV_later HL5.out HRlt.out.2.1 nothing
          rw [← hwf] at HW HLF
          have e0 := HW.c0; have e1 := HW.c1; have e2 := HW.c2
          change bodyPost _ _ _ _ _ (setV w5 R nothing)
          rw [← hwf]
          clear hwf p0 p1 p2 f0 f1 f2 q0 q1 q2
          exact bodyPost_ret (v := .tuple #[Val.v nothing, readE]) (by simp [results, Tryz.results115, go_sem, e0, e1, e2, readE] <;> rfl) rfl (val_no HSH.out HLF)
    · have HG : Hid (guessP l = nothing) := hid (by rw [hgi, if_neg (fun h => h1 h.1)])
      clear hgi
      go_upto_region 9 with (fail)
      obtain ⟨wy, hwy⟩ : ∃ wy, wy = w1 := ⟨_, rfl⟩
      have HLY : Hid (Later w wy) := hid (by rw [hwy]; exact HL1.out)
      have HVY : Hid (VObj wy V nothing) := hid (by rw [hwy]; exact HV1.out)
      have HRY : Hid (VObj wy R nothing) := hid (by rw [hwy]; exact HR1.out)
      rw [← hwy]
      clear hwy
      have q0 := HVY.out.c0; have q1 := HVY.out.c1; have q2 := HVY.out.c2
      have hlt := cell_lt q0
      go_wp2_with fail
      refine (show_any nothing _ (lit_ok (by rw [← HG.out]; exact guess_ok l)) (HT.out.later HLY.out)).mono ?_
      rintro e w5 ⟨rfl, hL5⟩
      have HL5 := hid (Later.trans _ _ _ HLY.out hL5)
      have HV5 := hid (HVY.out.later hL5)
      have HR5 := hid (HRY.out.later hL5)
      replace q0 := HV5.out.c0; replace q1 := HV5.out.c1; replace q2 := HV5.out.c2
      have p0 := HR5.out.c0; have p1 := HR5.out.c1; have p2 := HR5.out.c2
      have f0 := HR5.out.free 0; have f1 := HR5.out.free 1; have f2 := HR5.out.free 2
      have hltR := cell_lt p0
      have hltV := cell_lt q0
      clear hL5 hlt
      by_cases hsh : showV nothing = l
      · have HSH : Hid (readP l = some nothing) := hid (by unfold readP; rw [HG.out, if_pos hsh])
        have hst := str_eq hsh
        clear hsh
        go_wp2_with fail
        obtain ⟨wf, hwf⟩ : ∃ wf, wf = setV w5 R nothing := ⟨_, rfl⟩
        have HW := HR5.out.set nothing
        have HLF := setV_later HL5.out HRlt.out.2.1 nothing
        rw [← hwf] at HW HLF
        have e0 := HW.c0; have e1 := HW.c1; have e2 := HW.c2
        change bodyPost _ _ _ _ _ (setV w5 R nothing)
        rw [← hwf]
        clear hwf p0 p1 p2 f0 f1 f2 q0 q1 q2
        exact bodyPost_ret (v := .tuple #[Val.v nothing, .nilIface]) (by simp [results, Tryz.results115, go_sem, e0, e1, e2, readE] <;> rfl) rfl (val_ok HSH.out HLF)
      · have HSH : Hid (readP l = none) := hid (by unfold readP; rw [HG.out, if_neg hsh])
        have hst := str_ne hsh
        clear hsh
        go_wp2_with fail
        obtain ⟨wf, hwf⟩ : ∃ wf, wf = setV w5 R nothing := ⟨_, rfl⟩
        have HW := HR5.out.set nothing
        have HLF := setV_later HL5.out HRlt.out.2.1 nothing
        rw [← hwf] at HW HLF
        have e0 := HW.c0; have e1 := HW.c1; have e2 := HW.c2
        change bodyPost _ _ _ _ _ (setV w5 R nothing)
        rw [← hwf]
        clear hwf p0 p1 p2 f0 f1 f2 q0 q1 q2
        exact bodyPost_ret (v := .tuple #[Val.v nothing, readE]) (by simp [results, Tryz.results115, go_sem, e0, e1, e2, readE] <;> rfl) rfl (val_no HSH.out HLF)
end Go.Proofs.YtgajofkeidjbgaaGreatDoor
