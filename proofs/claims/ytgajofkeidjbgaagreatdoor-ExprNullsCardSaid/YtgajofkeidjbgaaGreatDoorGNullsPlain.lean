/-
  PROVED HERE: in plain Lean: what the texts of streamwrightlaw3.ExprNulls come to.
  PROVED HERE: streamwrightlaw3.ExprNulls returns true, for every number, truth and text.
-/
import Derived.Test.YtgajofkeidjbgaaGreatDoorGRoundEval
import Derived.Test.YtgajofkeidjbgaaGreatDoorGExprBackWalk
namespace Go.Proofs.YtgajofkeidjbgaaGreatDoor
set_option linter.unusedSimpArgs false
set_option linter.unusedVariables false
open Go Go.RowKit

/-- the expression of a text, computed. -/
def textX (s : List UInt8) : Option Ex := match lexX s.length 0 s with
  | .error _ => none
  | .ok l => match parseX true 60 (.bin 0) 0 l with
    | some (.ok (x, r)) => if (hdT r).k = 0 then some x else none
    | _ => none
theorem textX_ok {s : List UInt8} {x : Ex} (hs : s.length ≤ 200) (h : textX s = some x) : TextR true s (.ok x) := by
  unfold textX at h
  cases hl : lexX s.length 0 s with
  | error p => rw [hl] at h; cases h
  | ok l =>
    rw [hl] at h
    simp only at h
    cases hp : parseX true 60 (.bin 0) 0 l with
    | none => rw [hp] at h; cases h
    | some q =>
      rw [hp] at h
      cases q with
      | error e => cases h
      | ok q =>
        obtain ⟨y, r⟩ := q
        simp only at h
        split at h
        · rename_i hk
          cases h
          exact text_by hs hl hp hk
        · cases h
def cs4 : List Col := [⟨[97], 1⟩, ⟨[98], 2⟩, ⟨[99], 3⟩, ⟨[122], 1⟩]
def row4 (a : Int) (t : Val) (c : ByteArray) : List Val := [⟨1, a, ByteArray.empty⟩, t, ⟨3, 0, c⟩, nothing]
def nullR (s : List UInt8) (row : List Val) : Option Val := match textX s with
  | none => none
  | some x => match kindP cs4 x with
    | .error _ => none
    | .ok _ => some (evalP cs4 row x)
theorem cols4 : colsP cs4 = true := by kernel_rfl
theorem null_eval {s : List UInt8} {row : List Val} {v : Val} (hs : s.length ≤ 200) (h : nullR s row = some v) (hf : fitsP cs4 row = true) : ∃ r, TextR true s r ∧ evalR cs4 row r = .ok v := by
  unfold nullR at h
  cases hx : textX s with
  | none => rw [hx] at h; cases h
  | some x =>
    rw [hx] at h
    simp only at h
    cases hk : kindP cs4 x with
    | error e => rw [hk] at h; cases h
    | ok k =>
      rw [hk] at h
      refine ⟨.ok x, textX_ok hs hx, ?_⟩
      unfold evalR checkR
      simp only
      rw [if_pos cols4, hk]
      simp only
      rw [if_pos hf]
      exact congrArg Except.ok (Option.some.inj h)
theorem fits4 (a : Int) (b : Bool) (c : ByteArray) (hc : c.size ≤ 60) : fitsP cs4 (row4 a (truthV b) c) = true := by
  have h : ∀ i, i < 4 → fitV ((row4 a (truthV b) c).getD i nothing) (cs4.getD i ⟨[], 0⟩) = true := by
    intro i hi
    match i, hi with
    | 0, _ =>
      show fitV ⟨1, a, ByteArray.empty⟩ ⟨[97], 1⟩ = true
      kernel_rfl
    | 1, _ =>
      show fitV (truthV b) ⟨[98], 2⟩ = true
      cases b <;> kernel_rfl
    | 2, _ =>
      show fitV ⟨3, 0, c⟩ ⟨[99], 3⟩ = true
      unfold fitV validV
      simp [hc]
    | 3, _ =>
      show fitV nothing ⟨[122], 1⟩ = true
      kernel_rfl
    | _ + 4, h => exact absurd h (by omega)
  rw [fits_all (fun i hi => ⟨hi, h i hi⟩)]
  rfl
abbrev nt0 : List UInt8 := [97, 32, 43, 32, 122]
abbrev nt1 : List UInt8 := [122, 32, 42, 32, 97]
abbrev nt2 : List UInt8 := [122, 32, 61, 32, 122]
abbrev nt3 : List UInt8 := [97, 32, 60, 32, 122]
abbrev nt4 : List UInt8 := [45, 122]
abbrev nt5 : List UInt8 := [108, 101, 110, 40, 99, 117, 116, 40, 99, 44, 32, 122, 41, 41]
abbrev nt6 : List UInt8 := [97, 98, 115, 40, 122, 41]
abbrev nt7 : List UInt8 := [110, 111, 116, 32, 40, 122, 32, 62, 32, 97, 41]
abbrev nt8 : List UInt8 := [97, 32, 47, 32, 48]
abbrev nt9 : List UInt8 := [97, 32, 37, 32, 40, 97, 32, 45, 32, 97, 41]
abbrev nt10 : List UInt8 := [122]
abbrev nt11 : List UInt8 := [99, 111, 97, 108, 101, 115, 99, 101, 40, 122, 44, 32, 122, 41]
abbrev et0 : List UInt8 := [97, 32, 61, 32, 122, 32, 97, 110, 100, 32, 102, 97, 108, 115, 101, 32, 111, 114, 32, 98]
abbrev et1 : List UInt8 := [98, 32, 111, 114, 32, 122, 32, 61, 32, 97, 32, 111, 114, 32, 116, 114, 117, 101]
abbrev et2 : List UInt8 := [105, 115, 110, 117, 108, 108, 40, 122, 41, 32, 97, 110, 100, 32, 110, 111, 116, 32, 105, 115, 110, 117, 108, 108, 40, 97, 41]
abbrev et3 : List UInt8 := [105, 102, 40, 122, 32, 61, 32, 97, 44, 32, 49, 44, 32, 50, 41]
theorem nn0 (a : Int) (t : Val) (c : ByteArray) : nullR nt0 (row4 a t c) = some nothing := by kernel_rfl
theorem nn1 (a : Int) (t : Val) (c : ByteArray) : nullR nt1 (row4 a t c) = some nothing := by kernel_rfl
theorem nn2 (a : Int) (t : Val) (c : ByteArray) : nullR nt2 (row4 a t c) = some nothing := by kernel_rfl
theorem nn3 (a : Int) (t : Val) (c : ByteArray) : nullR nt3 (row4 a t c) = some nothing := by kernel_rfl
theorem nn4 (a : Int) (t : Val) (c : ByteArray) : nullR nt4 (row4 a t c) = some nothing := by kernel_rfl
theorem nn5 (a : Int) (t : Val) (c : ByteArray) : nullR nt5 (row4 a t c) = some nothing := by kernel_rfl
theorem nn6 (a : Int) (t : Val) (c : ByteArray) : nullR nt6 (row4 a t c) = some nothing := by kernel_rfl
theorem nn7 (a : Int) (t : Val) (c : ByteArray) : nullR nt7 (row4 a t c) = some nothing := by kernel_rfl
theorem nn8 (a : Int) (t : Val) (c : ByteArray) : nullR nt8 (row4 a t c) = some nothing := by kernel_rfl
theorem nn9 (a : Int) (t : Val) (c : ByteArray) : nullR nt9 (row4 a t c) = some nothing := by
  have h : nullR nt9 (row4 a t c) = some (binV [37] (intV a) (intV (wrap64 (a - a)))) := by kernel_rfl
  have e : wrap64 (a - a) = 0 := by rw [Int.sub_self]; unfold wrap64; omega
  rw [h, e]
  rfl
theorem nn10 (a : Int) (t : Val) (c : ByteArray) : nullR nt10 (row4 a t c) = some nothing := by kernel_rfl
theorem nn11 (a : Int) (t : Val) (c : ByteArray) : nullR nt11 (row4 a t c) = some nothing := by kernel_rfl
theorem en0 (a : Int) (b : Bool) (c : ByteArray) : nullR et0 (row4 a (truthV b) c) = some (truthV b) := by cases b <;> kernel_rfl
theorem en1 (a : Int) (b : Bool) (c : ByteArray) : nullR et1 (row4 a (truthV b) c) = some (truthV true) := by cases b <;> kernel_rfl
theorem en2 (a : Int) (b : Bool) (c : ByteArray) : nullR et2 (row4 a (truthV b) c) = some (truthV true) := by cases b <;> kernel_rfl
theorem en3 (a : Int) (b : Bool) (c : ByteArray) : nullR et3 (row4 a (truthV b) c) = some (intV 2) := by cases b <;> kernel_rfl
def nullT : List (List UInt8) := [nt0, nt1, nt2, nt3, nt4, nt5, nt6, nt7, nt8, nt9, nt10, nt11]
theorem nulls_all (a : Int) (b : Bool) (c : ByteArray) (hc : c.size ≤ 60) : ∀ (i : Nat) (h : i < nullT.length), ∃ r, TextR true nullT[i] r ∧ evalR cs4 (row4 a (truthV b) c) r = .ok nothing := by
  intro i h
  match i, h with
  | 0, _ => exact null_eval (s := nt0) (by decide) (nn0 a (truthV b) c) (fits4 a b c hc)
  | 1, _ => exact null_eval (s := nt1) (by decide) (nn1 a (truthV b) c) (fits4 a b c hc)
  | 2, _ => exact null_eval (s := nt2) (by decide) (nn2 a (truthV b) c) (fits4 a b c hc)
  | 3, _ => exact null_eval (s := nt3) (by decide) (nn3 a (truthV b) c) (fits4 a b c hc)
  | 4, _ => exact null_eval (s := nt4) (by decide) (nn4 a (truthV b) c) (fits4 a b c hc)
  | 5, _ => exact null_eval (s := nt5) (by decide) (nn5 a (truthV b) c) (fits4 a b c hc)
  | 6, _ => exact null_eval (s := nt6) (by decide) (nn6 a (truthV b) c) (fits4 a b c hc)
  | 7, _ => exact null_eval (s := nt7) (by decide) (nn7 a (truthV b) c) (fits4 a b c hc)
  | 8, _ => exact null_eval (s := nt8) (by decide) (nn8 a (truthV b) c) (fits4 a b c hc)
  | 9, _ => exact null_eval (s := nt9) (by decide) (nn9 a (truthV b) c) (fits4 a b c hc)
  | 10, _ => exact null_eval (s := nt10) (by decide) (nn10 a (truthV b) c) (fits4 a b c hc)
  | 11, _ => exact null_eval (s := nt11) (by decide) (nn11 a (truthV b) c) (fits4 a b c hc)
  | _ + 12, h => exact absurd h (by show ¬ _ < 12; omega)
end Go.Proofs.YtgajofkeidjbgaaGreatDoor
namespace Go.Proofs.YtgajofkeidjbgaaGreatDoor
set_option linter.unusedSimpArgs false
set_option linter.unusedVariables false
open Go Go.RowKit Go.Deep

attribute [local go_sem high] run_eql_val' run_neq_val'
theorem cols4_at {w : World} {b : Nat} (h : w.heap[b]? = some (.cells #[.string ⟨#[97]⟩, .int .i64 1, .string ⟨#[98]⟩, .int .i64 2, .string ⟨#[99]⟩, .int .i64 3, .string ⟨#[122]⟩, .int .i64 1] 35 (0, 0))) : ColsArg w (some ⟨b, 0, none⟩) 4 cs4 := by
  refine ⟨fun i hi => ⟨b, 0, rfl, trivial, ?_⟩, ⟨by show 4 ≤ 4; omega, by show 4 ≤ _; omega⟩, fun x hx => ?_⟩
  · match i, hi with
    | 0, _ => exact ⟨cell_obj (i := 0) h rfl, cell_obj (i := 1) h rfl⟩
    | 1, _ => exact ⟨cell_obj (i := 2) h rfl, cell_obj (i := 3) h rfl⟩
    | 2, _ => exact ⟨cell_obj (i := 4) h rfl, cell_obj (i := 5) h rfl⟩
    | 3, _ => exact ⟨cell_obj (i := 6) h rfl, cell_obj (i := 7) h rfl⟩
    | _ + 4, h' => exact absurd h' (by show ¬ _ < 4; omega)
  · have : x.s.length ≤ 1 := by
      unfold cs4 at hx
      simp only [List.mem_cons, List.not_mem_nil, or_false] at hx
      rcases hx with rfl | rfl | rfl | rfl <;> decide
    omega
theorem row4_at {w : World} {b : Nat} {a : Int} {t : Val} {c : ByteArray} (h : w.heap[b]? = some (.cells #[.int .i64 1, .int .i64 a, .string ⟨#[]⟩, .int .i64 t.k, .int .i64 t.n, .string t.t, .int .i64 3, .int .i64 0, .string c, .int .i64 0, .int .i64 0, .string ⟨#[]⟩] 38 (0, 0)))
    (ha : -9223372036854775808 ≤ a ∧ a ≤ 9223372036854775807) (ht : IntOk t) : RowArg w (some ⟨b, 0, none⟩) 4 (row4 a t c) := by
  refine ⟨⟨_, 4, rfl, by show 4 ≤ 4; omega, by unfold maxLen; omega, (fun h => by cases h), fun i hi => ⟨b, 0, rfl, trivial, ?_⟩⟩, by show 4 ≤ _; omega, fun x hx => ?_⟩
  · match i, hi with
    | 0, _ => exact ⟨cell_obj (i := 0) h rfl, cell_obj (i := 1) h rfl, cell_obj (i := 2) h rfl⟩
    | 1, _ => exact ⟨cell_obj (i := 3) h rfl, cell_obj (i := 4) h rfl, cell_obj (i := 5) h rfl⟩
    | 2, _ => exact ⟨cell_obj (i := 6) h rfl, cell_obj (i := 7) h rfl, cell_obj (i := 8) h rfl⟩
    | 3, _ => exact ⟨cell_obj (i := 9) h rfl, cell_obj (i := 10) h rfl, cell_obj (i := 11) h rfl⟩
    | _ + 4, h' => exact absurd h' (by show ¬ _ < 4; omega)
  · unfold row4 at hx
    simp only [List.mem_cons, List.not_mem_nil, or_false] at hx
    rcases hx with rfl | rfl | rfl | rfl
    · exact ha
    · exact ht
    · exact ⟨by show (-9223372036854775808 : Int) ≤ 0; omega, by show (0 : Int) ≤ _; omega⟩
    · exact ⟨by show (-9223372036854775808 : Int) ≤ 0; omega, by show (0 : Int) ≤ _; omega⟩
theorem truth_ok (b : Bool) : IntOk (truthV b) := by cases b <;> exact ⟨by decide, by decide⟩
/-- what the law's calls of Eval have at hand. -/
structure NullEnv (w0 w : World) (C R : Nat) (a : Int) (b : Bool) (c : ByteArray) : Prop where
  later : Later w0 w
  err : ErrVars w
  tab : PowTab w
  space : SpaceTab w
  cols : ColsArg w (some ⟨C, 0, none⟩) 4 cs4
  row : RowArg w (some ⟨R, 0, none⟩) 4 (row4 a (truthV b) c)
theorem NullEnv.go {w0 w w' : World} {C R : Nat} {a : Int} {b : Bool} {c : ByteArray} (h : NullEnv w0 w C R a b c) (k : Later w w') : NullEnv w0 w' C R a b c := ⟨Later.trans _ _ _ h.later k, h.err.later k, h.tab.later k, h.space.later k, h.cols.later k, h.row.later k⟩
def EvTo4 (v : Val) (w : World) (e : Ending) (w' : World) : Prop := e = .returned (.tuple #[v.v, .nilIface]) ∧ Later w w'
theorem NullEnv.eval {w0 w : World} {C R : Nat} {a : Int} {b : Bool} {c : ByteArray} (h : NullEnv w0 w C R a b c) {s : List UInt8} {v : Val} (hs : ∃ r, TextR true s r ∧ evalR cs4 (row4 a (truthV b) c) r = .ok v) :
    Calls Tryz.prog 12 #[.string (strB s), .slice (some ⟨C, 0, none⟩) 4 4, .slice (some ⟨R, 0, none⟩) 4 4] w (EvTo4 v w) := by
  obtain ⟨r, hr, hv⟩ := hs
  refine (eval_is (ao := some ⟨C, 0, none⟩) (c := 4) (cs := cs4) (rao := some ⟨R, 0, none⟩) (rc := 4) (row := row4 a (truthV b) c) hr h.err h.tab h.space h.cols h.row).mono ?_
  rintro e w' ⟨hL, v', ev, rfl, hev, rfl⟩
  rw [hv] at hev ⊢
  have hev : ev = .nilIface := hev
  subst hev
  exact ⟨rfl, hL⟩
/-- the texts in memory. -/
def TextsAt (w : World) (b : Nat) : Prop := w.heap[b]? = some (.cells (nullT.map fun s => Value.string (strB s)).toArray 9 (0, 0))
theorem TextsAt.at {w : World} {b : Nat} (h : TextsAt w b) (i : Nat) (hi : i < nullT.length) : w.cell? ⟨b, i, none⟩ = some (.string (strB nullT[i])) := cell_obj h (by rw [List.getElem?_toArray, List.getElem?_map, List.getElem?_eq_getElem hi]; rfl)
set_option maxRecDepth 100000 in
set_option maxHeartbeats 8000000 in
theorem nulls_walk (a : Int) (b : Bool) (s : ByteArray) (w : World) (ha : -9223372036854775808 ≤ a ∧ a ≤ 9223372036854775807) (hE : ErrVars w) (hT : PowTab w) (hS : SpaceTab w) :
    Calls Tryz.prog 4 #[.int .i64 a, .bool b, .string s] w fun e w' => e = .returned (.bool true) ∧ Later w w' := by
  have HE := hid hE; have HT := hid hT; have HS := hid hS; have HA := hid ha
  clear hE hT hS ha
  go_enter Tryz.func4, Tryz.ntmps4
  go_upto_region 2 with (fail)
  obtain ⟨C, hC⟩ : ∃ C, C = w.heap.size := ⟨_, rfl⟩
  obtain ⟨w1, hw1⟩ : ∃ w1, w1 = w.alloc (.cells #[.string ⟨#[97]⟩, .int .i64 1, .string ⟨#[98]⟩, .int .i64 2, .string ⟨#[99]⟩, .int .i64 3, .string ⟨#[122]⟩, .int .i64 1] 35) := ⟨_, rfl⟩
  have hL1 : Later w w1 := hw1 ▸ Later.alloc _ _
  have hO1 : w1.heap[C]? = some (.cells #[.string ⟨#[97]⟩, .int .i64 1, .string ⟨#[98]⟩, .int .i64 2, .string ⟨#[99]⟩, .int .i64 3, .string ⟨#[122]⟩, .int .i64 1] 35 (0, 0)) := by rw [hw1, hC]; exact obj_new _ _
  rw [← hw1, ← hC]
  have HL1 := hid hL1; have HO1 := hid hO1
  clear hw1 hC hL1 hO1
  go_upto_region 3 with (fail)
  obtain ⟨T, hT⟩ : ∃ T, T = w1.heap.size := ⟨_, rfl⟩
  obtain ⟨w2, hw2⟩ : ∃ w2, w2 = w1.alloc (.cells #[.int .i64 2, .int .i64 0, .string ⟨#[]⟩] 38) := ⟨_, rfl⟩
  have hL2 : Later w1 w2 := hw2 ▸ Later.alloc _ _
  have hO2 : VObj w2 T (truthV false) := by unfold VObj; rw [hw2, hT]; exact obj_new _ _
  have HTN : Hid (w.heap.size ≤ T) := hid (by rw [hT]; exact HL1.out.size)
  have HTC : Hid (C ≠ T) := hid (by have := obj_lt HO1.out; omega)
  rw [← hw2, ← hT]
  have HL2 := hid (Later.trans _ _ _ HL1.out hL2); have HO2 := hid hO2
  have HC2 := hid (hL2.obj HO1.out)
  clear hw2 hT hL2 hO2
  go_upto_if 29 with (fail)
  obtain ⟨R1, hR1⟩ : ∃ RR_ : (Nat → Value) → World → Prop, RR_ = (fun us wy => Later w wy ∧ VObj wy T (truthV b) ∧ wy.heap[C]? = some (.cells #[.string ⟨#[97]⟩, .int .i64 1, .string ⟨#[98]⟩, .int .i64 2, .string ⟨#[99]⟩, .int .i64 3, .string ⟨#[122]⟩, .int .i64 1] 35 (0, 0))) := ⟨_, rfl⟩
  have HR1 := hid hR1; clear hR1
  refine wp_cut_frame' [false, false, false, false, false, false, false, false, false, false, false, false, false, false, false, false, false, false, false, false, false, false, false, false, false, false, false, false, false, false, true] R1 _ HR1.out ?_ ?_
  · cases b with
    | false =>
      go_wp2_with fail
      refine Meet.mk' HR1.out rfl ?_
      exact ⟨HL2.out, HO2.out, HC2.out⟩
    | true =>
      obtain ⟨c0, c1, c2, f0, f1, f2, cl⟩ := HO2.out.cells
      simp only [truthV] at c0 c1 c2
      go_wp2_with fail
      refine Meet.mk' HR1.out rfl ?_
      refine ⟨HL2.out.new (p := ⟨T, 1, none⟩) HTN.out _, ?_, ((Keeps.refl (fun b => b ≠ T) w2).setCell (p := ⟨T, 1, none⟩) (.inl fun h => h rfl) _).obj HTC.out HC2.out⟩
      exact obj_setCell (i := 1) HO2.out _
  intro us1 w3 hrel
  obtain ⟨hL3, hO3, hC3⟩ := hrel
  simp only [frameOf, Nat.reduceAdd]
  have HL3 := hid hL3; have HO3 := hid hO3; have HC3 := hid hC3
  clear hL3 hO3 hC3
  go_upto_if 33 with (fail)
  obtain ⟨R2, hR2⟩ : ∃ RR_ : (Nat → Value) → World → Prop, RR_ = (fun us wy => ∃ c : ByteArray, us 2 = .string c ∧ c.size ≤ 60 ∧ wy = w3) := ⟨_, rfl⟩
  have HR2 := hid hR2; clear hR2
  refine wp_cut_frame' [false, false, true, false, false, false, false, false, false, false, false, false, false, false, false, false, false, false, false, false, false, false, false, false, false, false, false, false, false, false, false, false, false, false, true, true] R2 _ HR2.out ?_ ?_
  · by_cases hs : (60 : Int) < s.size
    · have HSZ := hid hs
      go_wp2_with fail
      refine Meet.mk' HR2.out rfl ?_
      refine ⟨_, rfl, ?_, rfl⟩
      simp [ByteArray.size_extract]
      exact Nat.min_le_left _ _
    · have HSZ := hid hs
      go_wp2_with fail
      refine Meet.mk' HR2.out rfl ?_
      exact ⟨s, rfl, by have := HSZ.out; omega, rfl⟩
  intro us2 wy hrel
  obtain ⟨c, h2, hcs, hwy⟩ := hrel
  simp only [frameOf, Nat.reduceAdd, h2]
  have Hh2 := hid h2; clear h2
  subst hwy
  have HCS := hid hcs
  obtain ⟨t0, t1, t2, -, -, -, tl⟩ := HO3.out.cells
  clear hcs
  go_upto_region 8 with (fail)
  obtain ⟨R, hR⟩ : ∃ R, R = wy.heap.size := ⟨_, rfl⟩
  obtain ⟨w4, hw4⟩ : ∃ w4, w4 = wy.alloc (.cells #[.int .i64 1, .int .i64 a, .string ⟨#[]⟩, .int .i64 (truthV b).k, .int .i64 (truthV b).n, .string (truthV b).t, .int .i64 3, .int .i64 0, .string c, .int .i64 0, .int .i64 0, .string ⟨#[]⟩] 38) := ⟨_, rfl⟩
  have hL4 : Later wy w4 := hw4 ▸ Later.alloc _ _
  have hO4 : w4.heap[R]? = some (.cells #[.int .i64 1, .int .i64 a, .string ⟨#[]⟩, .int .i64 (truthV b).k, .int .i64 (truthV b).n, .string (truthV b).t, .int .i64 3, .int .i64 0, .string c, .int .i64 0, .int .i64 0, .string ⟨#[]⟩] 38 (0, 0)) := by rw [hw4, hR]; exact obj_new _ _
  rw [← hw4, ← hR]
  have HN4 : Hid (NullEnv w w4 C R a b c) := hid (by
    have hl := Later.trans _ _ _ HL3.out hL4
    exact ⟨hl, HE.out.later hl, HT.out.later hl, HS.out.later hl, cols4_at (hL4.obj HC3.out), row4_at hO4 HA.out (truth_ok b)⟩)
  have HT4 := hid (HO3.out.later hL4)
  clear hw4 hR hL4 hO4 t0 t1 t2 tl
  go_upto_region 9 with (fail)
  obtain ⟨X, hX⟩ : ∃ X, X = w4.heap.size := ⟨_, rfl⟩
  obtain ⟨w5, hw5⟩ : ∃ w5, w5 = w4.alloc (.cells (nullT.map fun s => Value.string (strB s)).toArray 9) := ⟨_, rfl⟩
  have hL5 : Later w4 w5 := hw5 ▸ Later.alloc _ _
  have hO5 : TextsAt w5 X := by unfold TextsAt; rw [hw5, hX]; exact obj_new _ _
  have hw5' : w4.alloc (.cells #[.string ⟨#[97, 32, 43, 32, 122]⟩, .string ⟨#[122, 32, 42, 32, 97]⟩, .string ⟨#[122, 32, 61, 32, 122]⟩, .string ⟨#[97, 32, 60, 32, 122]⟩, .string ⟨#[45, 122]⟩, .string ⟨#[108, 101, 110, 40, 99, 117, 116, 40, 99, 44, 32, 122, 41, 41]⟩, .string ⟨#[97, 98, 115, 40, 122, 41]⟩, .string ⟨#[110, 111, 116, 32, 40, 122, 32, 62, 32, 97, 41]⟩, .string ⟨#[97, 32, 47, 32, 48]⟩, .string ⟨#[97, 32, 37, 32, 40, 97, 32, 45, 32, 97, 41]⟩, .string ⟨#[122]⟩, .string ⟨#[99, 111, 97, 108, 101, 115, 99, 101, 40, 122, 44, 32, 122, 41]⟩] 9) = w5 := hw5.symm
  rw [hw5', ← hX]
  have HN5 := hid (HN4.out.go hL5); have HX5 := hid hO5; have HT5 := hid (HT4.out.later hL5)
  clear hw5 hX hL5 hO5 hw5'
  go_wp2_with fail
  obtain ⟨R3, hR3⟩ : ∃ RR_ : (Nat → Value) → World → Prop, RR_ = (fun us wx => ∃ k : Nat, us 11 = .int .i64 (k : Int) ∧ k ≤ 12 ∧ Later w5 wx) := ⟨_, rfl⟩
  obtain ⟨mu3, hmu3⟩ : ∃ mu : (Nat → Value) → World → Nat, mu = (fun us _ => 12 - (intOf (us 11)).toNat) := ⟨_, rfl⟩
  have HR3 := hid hR3; have Hmu3 := hid hmu3; clear hR3 hmu3
  refine wp_loop_frame' [false, false, false, false, false, false, true, false, false, false, false, true, true, true, false, false, false, false, false, false, false, false, false, false, false, false, false, false, false, false, false, false, false, false, false, false, false, false, false, false, false, false, false, false, true, true, true, true, true, true, true, true, true, true, true, true, true, true, true, true, true, true, true, true, true, true, true] R3 _ mu3 HR3.out ?_ ?_
  · exact ⟨0, rfl, by omega, Later.refl _⟩
  intro us3 wx hrel
  obtain ⟨k, h11, hk, hL⟩ := hrel
  simp only [frameOf, Nat.reduceAdd, h11]
  have Hh11 := hid h11; clear h11
  have HNX := hid (HN5.out.go hL); have HXX := hid (hL.obj HX5.out); have HLX := hid hL; have HK := hid hk
  clear hL hk
  by_cases hlt : k < 12
  · have hki : (k : Int) < 12 := by omega
    have HLT : Hid (k < nullT.length) := hid hlt
    have p0 := TextsAt.at HXX.out k HLT.out
    have pl := cell_lt p0
    have HEV := hid (HNX.out.eval (nulls_all a b c HCS.out k HLT.out))
    obtain ⟨tx, htx⟩ : ∃ t, strB (nullT[k]'HLT.out) = t := ⟨_, rfl⟩
    rw [htx] at p0 HEV
    have HWK : Hid (wrap64 ((k : Int) + 1) = ((k + 1 : Nat) : Int)) := hid (by unfold wrap64; omega)
    clear htx hlt
    go_wp2_with fail
    refine HEV.out.mono ?_
    rintro e w6 ⟨rfl, hL6⟩
    have hvn : Val.v nothing = .agg #[.int .i64 0, .int .i64 0, .string ⟨#[]⟩] := rfl
    have heq : eqV ⟨0, 0, ⟨#[]⟩⟩ ⟨0, 0, ⟨#[]⟩⟩ = true := by decide +kernel
    rw [hvn]
    have HL6 := hid (Later.trans _ _ _ HLX.out hL6)
    have HL7 := hid (Later.alloc w6 (.cells #[.int .i64 0, .int .i64 0, .string ⟨#[]⟩] 38))
    clear hL6 p0 pl hvn
    go_wp2_with fail
    try simp only [HWK.out]
    refine Round.mk' HR3.out Hmu3.out rfl ?_ ?_
    · exact ⟨k + 1, rfl, by have := HLT.out; have : nullT.length = 12 := rfl; omega, Later.trans _ _ _ HL6.out HL7.out⟩
    · rw [Hh11.out]; have := HLT.out; have : nullT.length = 12 := rfl; simp [intOf, slots]; omega
  · have hki : ¬ (k : Int) < 12 := by omega
    clear hlt
    have HTX := hid (HT5.out.later HLX.out)
    go_wp2_with fail
    refine (HNX.out.eval (null_eval (s := et0) (by decide) (en0 a b c) (fits4 a b c HCS.out))).mono ?_
    rintro e wq0 ⟨rfl, hLq⟩
    have HNq0 := hid (HNX.out.go hLq)
    have HTXq0 := hid (HTX.out.later hLq)
    rw [vv (truthV b)]
    clear hLq
    go_upto_region 16 with (fail)
    obtain ⟨B0, hB⟩ : ∃ A, A = wq0.heap.size := ⟨_, rfl⟩
    obtain ⟨wr0, hw⟩ : ∃ x, x = wq0.alloc (.cells #[.int .i64 (truthV b).k, .int .i64 (truthV b).n, .string (truthV b).t] 38) := ⟨_, rfl⟩
    have hLr : Later wq0 wr0 := hw ▸ Later.alloc _ _
    have hOr : VObj wr0 B0 (truthV b) := by unfold VObj; rw [hw, hB]; exact obj_new _ _
    rw [← hw, ← hB]
    have HNr0 := hid (HNq0.out.go hLr); have HB0r := hid hOr
    have HTXq0r := hid (HTXq0.out.later hLr)
    clear hB hw hLr hOr
    go_wp2_with fail
    refine (HNr0.out.eval (null_eval (s := et1) (by decide) (en1 a b c) (fits4 a b c HCS.out))).mono ?_
    rintro e wq1 ⟨rfl, hLq⟩
    have HNq1 := hid (HNr0.out.go hLq)
    have HTXq0rq1 := hid (HTXq0r.out.later hLq)
    have HB0rq1 := hid (HB0r.out.later hLq)
    rw [show Val.v (truthV true) = .agg #[.int .i64 2, .int .i64 1, .string ⟨#[]⟩] from rfl]
    clear hLq
    go_upto_region 17 with (fail)
    obtain ⟨B1, hB⟩ : ∃ A, A = wq1.heap.size := ⟨_, rfl⟩
    obtain ⟨wr1, hw⟩ : ∃ x, x = wq1.alloc (.cells #[.int .i64 2, .int .i64 1, .string ⟨#[]⟩] 38) := ⟨_, rfl⟩
    have hLr : Later wq1 wr1 := hw ▸ Later.alloc _ _
    have hOr : VObj wr1 B1 ⟨2, 1, ⟨#[]⟩⟩ := by unfold VObj; rw [hw, hB]; exact obj_new _ _
    rw [← hw, ← hB]
    have HNr1 := hid (HNq1.out.go hLr); have HB1r := hid hOr
    have HTXq0rq1r := hid (HTXq0rq1.out.later hLr)
    have HB0rq1r := hid (HB0rq1.out.later hLr)
    clear hB hw hLr hOr
    go_wp2_with fail
    refine (HNr1.out.eval (null_eval (s := et2) (by decide) (en2 a b c) (fits4 a b c HCS.out))).mono ?_
    rintro e wq2 ⟨rfl, hLq⟩
    have HNq2 := hid (HNr1.out.go hLq)
    have HTXq0rq1rq2 := hid (HTXq0rq1r.out.later hLq)
    have HB0rq1rq2 := hid (HB0rq1r.out.later hLq)
    have HB1rq2 := hid (HB1r.out.later hLq)
    rw [show Val.v (truthV true) = .agg #[.int .i64 2, .int .i64 1, .string ⟨#[]⟩] from rfl]
    clear hLq
    go_upto_region 18 with (fail)
    obtain ⟨B2, hB⟩ : ∃ A, A = wq2.heap.size := ⟨_, rfl⟩
    obtain ⟨wr2, hw⟩ : ∃ x, x = wq2.alloc (.cells #[.int .i64 2, .int .i64 1, .string ⟨#[]⟩] 38) := ⟨_, rfl⟩
    have hLr : Later wq2 wr2 := hw ▸ Later.alloc _ _
    have hOr : VObj wr2 B2 ⟨2, 1, ⟨#[]⟩⟩ := by unfold VObj; rw [hw, hB]; exact obj_new _ _
    rw [← hw, ← hB]
    have HNr2 := hid (HNq2.out.go hLr); have HB2r := hid hOr
    have HTXq0rq1rq2r := hid (HTXq0rq1rq2.out.later hLr)
    have HB0rq1rq2r := hid (HB0rq1rq2.out.later hLr)
    have HB1rq2r := hid (HB1rq2.out.later hLr)
    clear hB hw hLr hOr
    go_wp2_with fail
    refine (HNr2.out.eval (null_eval (s := et3) (by decide) (en3 a b c) (fits4 a b c HCS.out))).mono ?_
    rintro e wq3 ⟨rfl, hLq⟩
    have HNq3 := hid (HNr2.out.go hLq)
    have HTXq0rq1rq2rq3 := hid (HTXq0rq1rq2r.out.later hLq)
    have HB0rq1rq2rq3 := hid (HB0rq1rq2r.out.later hLq)
    have HB1rq2rq3 := hid (HB1rq2r.out.later hLq)
    have HB2rq3 := hid (HB2r.out.later hLq)
    rw [show Val.v (intV 2) = .agg #[.int .i64 1, .int .i64 2, .string ⟨#[]⟩] from rfl]
    clear hLq
    go_upto_region 19 with (fail)
    obtain ⟨B3, hB⟩ : ∃ A, A = wq3.heap.size := ⟨_, rfl⟩
    obtain ⟨wr3, hw⟩ : ∃ x, x = wq3.alloc (.cells #[.int .i64 1, .int .i64 2, .string ⟨#[]⟩] 38) := ⟨_, rfl⟩
    have hLr : Later wq3 wr3 := hw ▸ Later.alloc _ _
    have hOr : VObj wr3 B3 ⟨1, 2, ⟨#[]⟩⟩ := by unfold VObj; rw [hw, hB]; exact obj_new _ _
    rw [← hw, ← hB]
    have HNr3 := hid (HNq3.out.go hLr); have HB3r := hid hOr
    have HTXq0rq1rq2rq3r := hid (HTXq0rq1rq2rq3.out.later hLr)
    have HB0rq1rq2rq3r := hid (HB0rq1rq2rq3.out.later hLr)
    have HB1rq2rq3r := hid (HB1rq2rq3.out.later hLr)
    have HB2rq3r := hid (HB2rq3.out.later hLr)
    clear hB hw hLr hOr
    go_upto_region 20 with (fail)
    obtain ⟨Y, hB⟩ : ∃ A, A = wr3.heap.size := ⟨_, rfl⟩
    obtain ⟨wy9, hw⟩ : ∃ x, x = wr3.alloc (.cells #[.int .i64 2, .int .i64 1, .string ⟨#[]⟩] 38) := ⟨_, rfl⟩
    have hLr : Later wr3 wy9 := hw ▸ Later.alloc _ _
    have hOr : VObj wy9 Y ⟨2, 1, ⟨#[]⟩⟩ := by unfold VObj; rw [hw, hB]; exact obj_new _ _
    rw [← hw, ← hB]
    have HN9 := hid (HNr3.out.go hLr)
    obtain ⟨a00, a01, a02, -, -, -, a03⟩ := (HTXq0rq1rq2rq3r.out.later hLr).cells
    obtain ⟨a10, a11, a12, -, -, -, a13⟩ := (HB0rq1rq2rq3r.out.later hLr).cells
    obtain ⟨a20, a21, a22, -, -, -, a23⟩ := (HB1rq2rq3r.out.later hLr).cells
    obtain ⟨a30, a31, a32, -, -, -, a33⟩ := (HB2rq3r.out.later hLr).cells
    obtain ⟨a40, a41, a42, -, -, -, a43⟩ := (HB3r.out.later hLr).cells
    obtain ⟨y0, y1, y2, -, -, -, y3⟩ := hOr.cells
    clear hB hw hLr hOr
    have q1 : eqV ⟨(truthV b).k, (truthV b).n, (truthV b).t⟩ ⟨(truthV b).k, (truthV b).n, (truthV b).t⟩ = true := eq_self_v _
    have q2 : eqV ⟨2, 1, ⟨#[]⟩⟩ ⟨2, 1, ⟨#[]⟩⟩ = true := by decide +kernel
    have q3 : eqV ⟨1, 2, ⟨#[]⟩⟩ ⟨1, 2, ⟨#[]⟩⟩ = true := by decide +kernel
    go_wp2_with fail
    exact bodyPost_ret (results_tmp rfl _ _ _) rfl ⟨by simp, HN9.out.later⟩
theorem nulls_str (a : Int) (b : Bool) (s : ByteArray) (w : World) (ha : (Lit.int .i64 a).wf = true) (hE : ErrVars w) (hT : PowTab w) (hS : SpaceTab w) :
    Calls Tryz.prog 4 #[.int .i64 a, .bool b, .string s] w fun e w' => e = .returned (.bool true) ∧ Later w w' := by
  refine nulls_walk a b s w ?_ hE hT hS
  simp [Lit.wf, IntKind.min, IntKind.max, IntKind.bits, IntKind.signed] at ha
  omega
end Go.Proofs.YtgajofkeidjbgaaGreatDoor
