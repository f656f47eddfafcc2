/-
  PROVED HERE: in plain Lean: what a text is as an expression; the program's and the document's word agree.
  PROVED HERE: the parser of expr, its small parts: here, take, is, must.
  PROVED HERE: the parser of expr: must, levels, words.
  PROVED HERE: trees of expr in memory; what a parser's function answers; nested.
-/
import Derived.Test.YtgajofkeidjbgaaGreatDoorGExprDoc
import Derived.Test.YtgajofkeidjbgaaGreatDoorGExprLex2
import Derived.Test.YtgajofkeidjbgaaGreatDoorGData
namespace Go.Proofs.YtgajofkeidjbgaaGreatDoor
set_option linter.unusedSimpArgs false
set_option linter.unusedVariables false
open Go Go.RowKit

def doneR (q : Res) : Except Fault Ex := match q with
  | .error e => .error e
  | .ok x => if (hdT x.2).k = 0 then .ok x.1 else .error (1, (hdT x.2).p)
/-- the expression of a text, or what is wrong, and where: 'true' as the program reads it, 'false' as the document does. -/
def TextR (R : Bool) (s : List UInt8) (r : Except Fault Ex) : Prop :=
  if 200 < s.length then r = .error (5, 0)
  else match lexX s.length 0 s with
    | .error p => r = .error (1, p)
    | .ok l => ∃ q, Par R (topJ R) 0 l q ∧ r = doneR q
theorem text_agree {s : List UInt8} {r r' : Except Fault Ex} (h : TextR true s r) (h' : TextR false s r') : r = r' := by
  unfold TextR at h h'
  split at h
  · rename_i hl
    rw [if_pos hl] at h'
    rw [h, h']
  · rename_i hl
    rw [if_neg hl] at h'
    cases hx : lexX s.length 0 s with
    | error p => rw [hx] at h h'; simp only at h h'; rw [h, h']
    | ok l =>
      rw [hx] at h h'
      obtain ⟨q, h1, rfl⟩ := h
      obtain ⟨q', h2, rfl⟩ := h'
      rw [par_agree h1 h2]
theorem text_one {s : List UInt8} {r r' : Except Fault Ex} (h : TextR true s r) (h' : TextR true s r') : r = r' := by
  unfold TextR at h h'
  split at h
  · rename_i hl
    rw [if_pos hl] at h'
    rw [h, h']
  · rename_i hl
    rw [if_neg hl] at h'
    cases hx : lexX s.length 0 s with
    | error p => rw [hx] at h h'; simp only at h h'; rw [h, h']
    | ok l =>
      rw [hx] at h h'
      obtain ⟨q, h1, rfl⟩ := h
      obtain ⟨q', h2, rfl⟩ := h'
      rw [h1.one h2]
theorem lexX_ok : ∀ (n p : Nat) (s : List UInt8) (l : List Tok), lexX n p s = .ok l → (s.length ≤ n → (∀ t ∈ l, TokOk t) ∧ ∃ h : l ≠ [], (l.getLast h).k = 0)
  | n, p, [], l, h, _ => by
    unfold lexX at h
    cases h
    refine ⟨fun t ht => ?_, by simp, rfl⟩
    obtain rfl := List.mem_singleton.1 ht
    exact .inl ⟨rfl, rfl⟩
  | 0, p, c :: s, l, h, hl => absurd hl (by simp)
  | n + 1, p, c :: s, l, h, hl => by
    simp only [List.length_cons] at hl
    unfold lexX at h
    split at h
    · exact lexX_ok n _ _ _ h (by omega)
    · cases ht : tokAt c s with
      | none => rw [ht] at h; cases h
      | some x =>
        obtain ⟨k, m⟩ := x
        rw [ht] at h
        simp only at h
        have hm := tokAt_len ht
        cases hr : lexX n (p + m) ((c :: s).drop m) with
        | error e => rw [hr] at h; cases h
        | ok l' =>
          rw [hr] at h
          cases h
          have ih := lexX_ok n _ _ _ hr (by simp only [List.length_drop, List.length_cons]; omega)
          refine ⟨fun t ht' => ?_, by simp, ?_⟩
          · rcases List.mem_cons.1 ht' with rfl | h1
            · exact tokAt_ok ht p
            · exact ih.1 t h1
          · rw [List.getLast_cons ih.2.1]
            exact ih.2.2
/-- what a text's expression is like. -/
theorem text_ok {s : List UInt8} {x : Ex} (h : TextR true s (.ok x)) : ExOk x := by
  unfold TextR at h
  split at h
  · cases h
  · cases hx : lexX s.length 0 s with
    | error p => rw [hx] at h; cases h
    | ok l =>
      rw [hx] at h
      obtain ⟨q, ⟨n, hn⟩, h2⟩ := h
      unfold doneR at h2
      cases q with
      | error e => cases h2
      | ok y =>
        obtain ⟨y, r⟩ := y
        simp only at h2
        split at h2
        · cases h2
          exact (parse_ok n _ 0 l x r (lexX_ok _ _ _ _ hx (Nat.le_refl _)).1 hn trivial).1
        · cases h2
end Go.Proofs.YtgajofkeidjbgaaGreatDoor
namespace Go.Proofs.YtgajofkeidjbgaaGreatDoor
set_option linter.unusedSimpArgs false
set_option linter.unusedVariables false
open Go.RowKit

def TokAt (w : World) (b o : Nat) (t : Tok) : Prop := w.cell? ⟨b, o, none⟩ = some (.int .u8 (t.k.toNat : Int)) ∧ w.cell? ⟨b, o + 1, none⟩ = some (.string (strB t.t)) ∧ w.cell? ⟨b, o + 2, none⟩ = some (.int .i64 (t.p : Int))
theorem TokAt.kept {S : Nat → Prop} {w w' : World} {b o : Nat} {x : Tok} (h : TokAt w b o x) (hs : S b) (k : Keeps S w w') : TokAt w' b o x := ⟨k.cell hs h.1, k.cell hs h.2.1, k.cell hs h.2.2⟩
abbrev ToksIn (S : Nat → Prop) (w : World) (v : Value) (l : List Tok) : Prop := SliceOf S TokAt 3 w v l
theorem SliceOf.toks_kept {S S' : Nat → Prop} {w w' : World} {v : Value} {l : List Tok} (h : ToksIn S w v l) (k : Keeps S' w w') (hs : ∀ b, S b → S' b) : ToksIn S w' v l := h.map fun _ _ _ hb hx => ⟨hb, hx.kept (hs _ hb) k⟩
/-- tokens behind a slice, in a block of tokens. -/
def ToksOf (P : Nat) (w : World) (v : Value) (l : List Tok) : Prop := ToksIn (fun b => b ≠ P) w v l ∧ ∀ g o n c, v = .slice (some ⟨g, o, none⟩) n c → g ≠ P ∧ ∃ cs f, w.heap[g]? = some (.cells cs 102 f)
theorem ToksOf.kept {S : Nat → Prop} {P : Nat} {w w' : World} {v : Value} {l : List Tok} (h : ToksOf P w v l) (k : Keeps S w w') (hs : ∀ g cs f, g ≠ P → w.heap[g]? = some (.cells cs 102 f) → S g) : ToksOf P w' v l := by
  obtain ⟨⟨a, c, rfl, hl, hc, hn, he⟩, hr⟩ := h
  refine ⟨⟨a, c, rfl, hl, hc, hn, fun i hi => ?_⟩, fun g o n c hv => ?_⟩
  · obtain ⟨b, o, rfl, hb, hx⟩ := he i hi
    obtain ⟨h1, cs, f, h2⟩ := hr b o _ _ rfl
    exact ⟨b, o, rfl, hb, hx.kept (hs b cs f h1 h2) k⟩
  · obtain ⟨h1, cs, f, h2⟩ := hr g o n c hv
    exact ⟨h1, cs, f, k.obj (hs g cs f h1 h2) h2⟩
/-- the parser at block 'P': its depth, its tokens. -/
def PAt (w : World) (P d : Nat) (l : List Tok) : Prop := ∃ v, w.heap[P]? = some (.cells #[v, .int .i64 (d : Int)] 99 (0, 0)) ∧ ToksOf P w v l
/-- the parser in a world that keeps it, and rows of tokens. -/
theorem PAt.kept {S : Nat → Prop} {w w' : World} {P d : Nat} {l : List Tok} (h : PAt w P d l) (k : Keeps S w w') (hP : S P) (hs : ∀ g cs f, g ≠ P → w.heap[g]? = some (.cells cs 102 f) → S g) : PAt w' P d l := by
  obtain ⟨v, h1, h2⟩ := h
  exact ⟨v, k.obj hP h1, h2.kept k hs⟩
theorem PAt.later {w w' : World} {P d : Nat} {l : List Tok} (h : PAt w P d l) (k : Later w w') : PAt w' P d l := by
  obtain ⟨v, h1, h2⟩ := h
  exact ⟨v, k.obj h1, h2.kept (k.keeps fun _ => True) fun _ _ _ _ _ => trivial⟩
def Tok.v (t : Tok) : Value := .agg #[.int .u8 (t.k.toNat : Int), .string (strB t.t), .int .i64 (t.p : Int)]
/-- the first token of a parser's slice. -/
theorem PAt.head {w : World} {P d : Nat} {t : Tok} {l : List Tok} (h : PAt w P d (t :: l)) : ∃ g o c, w.heap[P]? = some (.cells #[.slice (some ⟨g, o, none⟩) (l.length + 1) c, .int .i64 (d : Int)] 99 (0, 0)) ∧ g ≠ P ∧ TokAt w g o t ∧ l.length + 1 ≤ c ∧ c ≤ maxLen ∧
    ToksOf P w (.slice (some ⟨g, o + 3, none⟩) l.length (c - 1)) l ∧ ∃ cs f, w.heap[g]? = some (.cells cs 102 f) := by
  obtain ⟨v, h1, ⟨a, c, rfl, hl, hc, hn, he⟩, hrow⟩ := h
  obtain ⟨g, o, rfl, hg, ht⟩ := he 0 (by simp)
  have hT := hrow g o _ _ rfl
  refine ⟨g, o, c, h1, hg, by simpa using ht, hl, hc, ⟨?_, fun g' o' n' c' hv => ?_⟩, hT.2⟩
  rotate_left
  · simp only [Value.slice.injEq, Option.some.injEq, Addr.mk.injEq] at hv
    obtain ⟨⟨rfl, -, -⟩, -, -⟩ := hv
    exact hT
  refine ⟨some ⟨g, o + 3, none⟩, c - 1, rfl, by simp only [List.length_cons] at hl; omega, by omega, (fun h => by cases h), fun i hi => ?_⟩
  obtain ⟨b', o', hb, hs, hx⟩ := he (i + 1) (by simp only [List.length_cons]; omega)
  simp only [Option.some.injEq, Addr.mk.injEq] at hb
  obtain ⟨rfl, rfl, -⟩ := hb
  refine ⟨_, _, rfl, hs, ?_⟩
  rw [show o + 3 + i * 3 = o + (i + 1) * 3 by omega]
  simpa using hx
theorem here_any (P d : Nat) (t : Tok) (l : List Tok) (w : World) (h : PAt w P d (t :: l)) : Calls Tryz.prog 40 #[.pointer (some ⟨P, 0, none⟩)] w fun e w' => e = .returned t.v ∧ Later w w' := by
  obtain ⟨g, o, c, hP, -, ⟨h0, h1, h2⟩, -, -, -, -⟩ := h.head
  have p0 := cell_obj (i := 0) hP rfl
  have hp := cell_lt p0
  have hg := cell_lt h0
  clear h
  go_enter Tryz.func40, Tryz.ntmps40
  go_wp2_with fail
  exact bodyPost_ret (v := t.v) (by simp [results, Tryz.results40, go_sem, Tok.v] <;> rfl) rfl ⟨rfl, (Later.alloc _ _)⟩
/-- what 'take' leaves. -/
theorem take_left {w : World} {P d : Nat} {l : List Tok} {v u : Value} (hP : w.heap[P]? = some (.cells #[u, .int .i64 (d : Int)] 99 (0, 0))) (hv : ToksOf P w v l) (o1 o2 : Obj) :
    Keeps (fun b => b ≠ P) w (((w.setCell ⟨P, 0, none⟩ v).alloc o1).alloc o2) ∧ PAt (((w.setCell ⟨P, 0, none⟩ v).alloc o1).alloc o2) P d l := by
  have hL : Later (w.setCell ⟨P, 0, none⟩ v) (((w.setCell ⟨P, 0, none⟩ v).alloc o1).alloc o2) := (Later.alloc _ _).alloc' _
  have hk : Keeps (fun b => b ≠ P) w (w.setCell ⟨P, 0, none⟩ v) := (Keeps.refl _ w).setCell (p := ⟨P, 0, none⟩) (.inl fun h => h rfl) _
  refine ⟨hk.trans (hL.keeps _), v, hL.obj (obj_setCell (i := 0) hP v), (hv.kept hk fun _ _ _ h _ => h).kept (hL.keeps fun _ => True) fun _ _ _ _ _ => trivial⟩
theorem take_any (P d : Nat) (t : Tok) (l : List Tok) (w : World) (h : PAt w P d (t :: l)) : Calls Tryz.prog 74 #[.pointer (some ⟨P, 0, none⟩)] w fun e w' => e = .returned t.v ∧ Keeps (fun b => b ≠ P) w w' ∧ PAt w' P d l := by
  obtain ⟨g, o, c, hP, hgP, ⟨h0, h1, h2⟩, hc1, hc2, htl, hrow⟩ := h.head
  have HTL := hid htl; have HROW := hid hrow; have HP := hid hP; have HGP := hid hgP
  have p0 := cell_obj (i := 0) hP rfl
  have hp := cell_lt p0
  have hg := cell_lt h0
  have zp := free_obj (i := 0) hP
  clear h htl hP hgP hrow
  by_cases hc : c = 1
  · obtain rfl : l = [] := by cases l with
      | nil => rfl
      | cons a l => simp only [List.length_cons] at hc1; omega
    subst hc
    go_enter Tryz.func74, Tryz.ntmps74
    go_wp2_with fail
    have hl := take_left (v := .slice (some ⟨g, o, none⟩) 0 0) (l := []) HP.out ⟨⟨some ⟨g, o, none⟩, 0, rfl, by simp, by unfold maxLen; omega, (fun h => by cases h), fun i hi => absurd hi (by simp)⟩, fun g' o' n' c' hv => by
      simp only [Value.slice.injEq, Option.some.injEq, Addr.mk.injEq] at hv
      obtain ⟨⟨rfl, -, -⟩, -, -⟩ := hv
      exact ⟨HGP.out, HROW.out⟩⟩
    exact bodyPost_ret (v := t.v) (by simp [results, Tryz.results74, go_sem, Tok.v] <;> rfl) rfl ⟨rfl, (hl _ _).1, (hl _ _).2⟩
  · skip
    go_enter Tryz.func74, Tryz.ntmps74
    go_wp2_with fail
    have hl := take_left HP.out HTL.out
    exact bodyPost_ret (v := t.v) (by simp [results, Tryz.results74, go_sem, Tok.v] <;> rfl) rfl ⟨rfl, (hl _ _).1, (hl _ _).2⟩
theorem strB_toL' (l : List UInt8) : (strB l).toList = l := by rw [Lib.toList_data]; rfl
theorem strs_eq (a b : List UInt8) : ((strB a).toList == (strB b).toList) = decide (a = b) := by
  rw [strB_toL', strB_toL', Bool.eq_iff_iff]
  simp
theorem byte_eq (k : UInt8) (n : Nat) (hn : n < 256) : ((k.toNat : Int) == (n : Int)) = decide (k = UInt8.ofNat n) := by
  rw [Bool.eq_iff_iff]
  simp only [beq_iff_eq, decide_eq_true_eq]
  constructor
  · intro h; apply UInt8.toNat_inj.1; simp; omega
  · rintro rfl; simp; omega
def IsTo (w : World) (P d : Nat) (t : Tok) (l : List Tok) (x : List UInt8) (e : Ending) (w' : World) : Prop :=
  e = .returned (.bool (isW t x)) ∧ Keeps (fun b => b ≠ P) w w' ∧ PAt w' P d (if isW t x = true then l else t :: l)
theorem is_any (P d : Nat) (t : Tok) (l : List Tok) (x : List UInt8) (w : World) (h : PAt w P d (t :: l)) : Calls Tryz.prog 75 #[.pointer (some ⟨P, 0, none⟩), .string (strB x)] w (IsTo w P d t l x) := by
  have HP := hid h
  clear h
  go_enter Tryz.func75, Tryz.ntmps75
  go_wp2_with fail
  refine (here_any P d t l _ HP.out).mono ?_
  rintro e w1 ⟨rfl, hL1⟩
  have HL1 := hid hL1
  have HP1 := hid (HP.out.later hL1)
  clear hL1
  unfold Tok.v
  have HW : Hid (isW t x = (decide (t.t = x) && (decide (t.k = 111) || decide (t.k = 110)))) := hid (by
    unfold isW
    rw [Bool.eq_iff_iff]
    simp)
  obtain ⟨b1, h1⟩ : ∃ b, decide (t.t = x) = b := ⟨_, rfl⟩
  obtain ⟨b2, h2⟩ : ∃ b, (!decide (t.k = 111)) = b := ⟨_, rfl⟩
  obtain ⟨b3, h3⟩ : ∃ b, (!decide (t.k = 110)) = b := ⟨_, rfl⟩
  have e1 : ((t.k.toNat : Int) != 111) = b2 := by rw [← h2]; exact congrArg (fun b => !b) (byte_eq t.k 111 (by omega))
  have e2 : ((t.k.toNat : Int) != 110) = b3 := by rw [← h3]; exact congrArg (fun b => !b) (byte_eq t.k 110 (by omega))
  have e3 : ((strB t.t).toList == (strB x).toList) = b1 := (strs_eq _ _).trans h1
  have HW2 : Hid (isW t x = (b1 && (!b2 || !b3))) := hid (by rw [HW.out, h1, ← h2, ← h3]; simp)
  clear h1 h2 h3 HW
  go_upto_region 2 with (fail)
  obtain ⟨R1, hR1⟩ : ∃ RR_ : (Nat → Value) → World → Prop, RR_ = (fun us wy => us 21 = .bool (!isW t x) ∧ Later w1 wy) := ⟨_, rfl⟩
  have HR1 := hid hR1; clear hR1
  refine wp_cut_frame' [false, false, false, false, false, false, false, true, true, true, true, true, true, true, true, true, true, true, true, true, true, true] R1 _ HR1.out ?_ ?_
  · cases b1 with
    | false =>
      go_wp2_with fail
      refine Meet.mk' HR1.out rfl ?_
      exact ⟨by simp [slots, HW2.out], Later.alloc _ _⟩
    | true =>
      cases b2 with
      | true =>
        go_wp2_with fail
        refine Meet.mk' HR1.out rfl ?_
        exact ⟨by simp [slots, HW2.out], Later.alloc _ _⟩
      | false =>
        cases b3 with
        | true =>
          go_wp2_with fail
          refine Meet.mk' HR1.out rfl ?_
          exact ⟨by simp [slots, HW2.out], Later.alloc _ _⟩
        | false =>
          go_wp2_with fail
          refine Meet.mk' HR1.out rfl ?_
          exact ⟨by simp [slots, HW2.out], Later.alloc _ _⟩
  intro us1 wy hrel
  obtain ⟨h21, hLy⟩ := hrel
  simp only [frameOf, Nat.reduceAdd, h21]
  have Hh21 := hid h21; clear h21
  have HLY := hid hLy
  clear e1 e2 e3 hLy
  cases hw : isW t x with
  | false =>
    have HN : Hid (isW t x = false) := hid hw
    clear hw
    go_wp2_with fail
    go_ret
    refine ⟨by rw [HN.out]; rfl, (Later.trans _ _ _ HL1.out HLY.out).keeps _, ?_⟩
    rw [HN.out]
    exact HP1.out.later HLY.out
  | true =>
    have HN : Hid (isW t x = true) := hid hw
    clear hw
    go_wp2_with fail
    refine (take_any P d t l _ (HP1.out.later HLY.out)).mono ?_
    rintro e w2 ⟨rfl, hk, hp⟩
    go_wp2_with fail
    go_ret
    refine ⟨by rw [HN.out]; rfl, ((Later.trans _ _ _ HL1.out HLY.out).keeps _).trans hk, ?_⟩
    rw [HN.out]
    exact hp
end Go.Proofs.YtgajofkeidjbgaaGreatDoor
namespace Go.Proofs.YtgajofkeidjbgaaGreatDoor
set_option linter.unusedSimpArgs false
set_option linter.unusedVariables false
open Go.RowKit

theorem tok_f0 (k p : Int) (t : ByteArray) (w : World) : (Instr.field 102 (.agg #[.int .u8 k, .string t, .int .i64 p]) 0).run Tryz.prog w = .ok (.int .u8 k) w := by kernel_rfl
theorem tok_f1 (k p : Int) (t : ByteArray) (w : World) : (Instr.field 102 (.agg #[.int .u8 k, .string t, .int .i64 p]) 1).run Tryz.prog w = .ok (.string t) w := by kernel_rfl
theorem tok_f2 (k p : Int) (t : ByteArray) (w : World) : (Instr.field 102 (.agg #[.int .u8 k, .string t, .int .i64 p]) 2).run Tryz.prog w = .ok (.int .i64 p) w := by kernel_rfl
attribute [local go_sem high] tok_f0 tok_f1 tok_f2
def MustTo (w : World) (P d : Nat) (t : Tok) (l : List Tok) (x : List UInt8) (e : Ending) (w' : World) : Prop :=
  Keeps (fun b => b ≠ P) w w' ∧ if isW t x = true then e = .returned (.tuple #[]) ∧ PAt w' P d l else Fails 1 t.p e
set_option maxRecDepth 100000 in
theorem must_any (P d : Nat) (t : Tok) (l : List Tok) (x : List UInt8) (w : World) (h : PAt w P d (t :: l)) : Calls Tryz.prog 119 #[.pointer (some ⟨P, 0, none⟩), .string (strB x)] w (MustTo w P d t l x) := by
  have HP := hid h
  clear h
  go_enter Tryz.func119, Tryz.ntmps119
  go_wp2_with fail
  refine (is_any P d t l x _ HP.out).mono ?_
  rintro e w1 ⟨rfl, hk, hp⟩
  have HK := hid hk; have HP1 := hid hp
  clear hk hp
  cases hw : isW t x with
  | true =>
    have HN : Hid (isW t x = true) := hid hw
    clear hw
    go_wp2_with fail
    refine bodyPost_ret (results_none rfl _ _ _) rfl ⟨HK.out, ?_⟩
    rw [if_pos HN.out]
    have h := HP1.out
    rw [if_pos HN.out] at h
    exact ⟨rfl, h⟩
  | false =>
    have HN : Hid (isW t x = false) := hid hw
    have HP2 : Hid (PAt w1 P d (t :: l)) := hid (by have h := HP1.out; rw [hw] at h; exact h)
    clear hw
    go_wp2_with fail
    refine (here_any P d t l _ HP2.out).mono ?_
    rintro e w2 ⟨rfl, hL⟩
    have HL := hid hL
    clear hL
    unfold Tok.v
    go_wp2_with fail
    refine (fail_any 1 t.p _).mono ?_
    rintro e w' ⟨hfl, rfl⟩
    unfold Fails at hfl
    subst hfl
    simp only [Exit.then, Exit.inBlock]
    refine ⟨rfl, HK.out.trans (HL.out.keeps _), ?_⟩
    rw [if_neg (by rw [HN.out]; simp)]
    exact rfl
/-- the operators' levels in memory. -/
def LevelsAt (S : Nat → Prop) (w : World) (v : Value) : Prop := ∃ B, v = .slice (some ⟨B, 0, none⟩) 5 5 ∧ S B ∧ ∀ k (h : k < 5), ∃ b, S b ∧ w.cell? ⟨B, k, none⟩ = some (.slice (some ⟨b, 0, none⟩) (lvlOps k).length (lvlOps k).length) ∧ StrsAt w b 0 (lvlOps k)
theorem LevelsAt.kept {S S' : Nat → Prop} {w w' : World} {v : Value} (h : LevelsAt S w v) (k : Keeps S' w w') (hs : ∀ b, S b → S' b) : LevelsAt S w' v := by
  obtain ⟨B, hv, hB, hk⟩ := h
  exact ⟨B, hv, hB, fun i hi => let ⟨b, h0, h1, h2⟩ := hk i hi; ⟨b, h0, k.cell (hs _ hB) h1, fun j hj => k.cell (hs _ h0) (h2 j hj)⟩⟩
theorem LevelsAt.later {S : Nat → Prop} {w w' : World} {v : Value} (h : LevelsAt S w v) (hL : Later w w') : LevelsAt S w' v := h.kept (hL.keeps S) fun _ h => h
theorem strs_new (w : World) (xs : List (List UInt8)) (cs : Array Value) (T : TypeId) (h : cs = (xs.map fun l => Value.string (strB l)).toArray) : StrsAt (w.alloc (.cells cs T)) w.heap.size 0 xs := by rw [h]; exact strs_alloc w xs T
set_option maxRecDepth 100000 in
theorem levels_any (w : World) : Calls Tryz.prog 70 #[] w fun e w' => ∃ v, e = .returned v ∧ LevelsAt (fun b => w.heap.size ≤ b) w' v ∧ Later w w' := by
  go_enter Tryz.func70, Tryz.ntmps70
  go_wp2_with fail
  obtain ⟨w1, h1⟩ : ∃ w1, w1 = w.alloc (.cells #[.string ⟨#[111, 114]⟩] 9) := ⟨_, rfl⟩
  obtain ⟨w2, h2⟩ : ∃ w2, w2 = w1.alloc (.cells #[.string ⟨#[97, 110, 100]⟩] 9) := ⟨_, rfl⟩
  obtain ⟨w3, h3⟩ : ∃ w3, w3 = w2.alloc (.cells #[.string ⟨#[61]⟩, .string ⟨#[60, 62]⟩, .string ⟨#[60]⟩, .string ⟨#[60, 61]⟩, .string ⟨#[62]⟩, .string ⟨#[62, 61]⟩] 9) := ⟨_, rfl⟩
  obtain ⟨w4, h4⟩ : ∃ w4, w4 = w3.alloc (.cells #[.string ⟨#[43]⟩, .string ⟨#[45]⟩, .string ⟨#[43, 43]⟩] 9) := ⟨_, rfl⟩
  obtain ⟨w5, h5⟩ : ∃ w5, w5 = w4.alloc (.cells #[.string ⟨#[42]⟩, .string ⟨#[47]⟩, .string ⟨#[37]⟩] 9) := ⟨_, rfl⟩
  have s1 : StrsAt w1 w.heap.size 0 (lvlOps 0) := by rw [h1]; exact strs_new w (lvlOps 0) _ _ rfl
  have s2 : StrsAt w2 (w.heap.size + 1) 0 (lvlOps 1) := by
    have e : w.heap.size + 1 = w1.heap.size := by rw [h1]; simp
    rw [h2, e]; exact strs_new w1 (lvlOps 1) _ _ rfl
  have s3 : StrsAt w3 (w.heap.size + 1 + 1) 0 (lvlOps 2) := by
    have e : w.heap.size + 1 + 1 = w2.heap.size := by rw [h2, h1]; simp
    rw [h3, e]; exact strs_new w2 (lvlOps 2) _ _ rfl
  have s4 : StrsAt w4 (w.heap.size + 1 + 1 + 1) 0 (lvlOps 3) := by
    have e : w.heap.size + 1 + 1 + 1 = w3.heap.size := by rw [h3, h2, h1]; simp
    rw [h4, e]; exact strs_new w3 (lvlOps 3) _ _ rfl
  have s5 : StrsAt w5 (w.heap.size + 1 + 1 + 1 + 1) 0 (lvlOps 4) := by
    have e : w.heap.size + 1 + 1 + 1 + 1 = w4.heap.size := by rw [h4, h3, h2, h1]; simp
    rw [h5, e]; exact strs_new w4 (lvlOps 4) _ _ rfl
  have e6 : w.heap.size + 1 + 1 + 1 + 1 + 1 = w5.heap.size := by rw [h5, h4, h3, h2, h1]; simp
  have l2 : Later w1 w2 := h2 ▸ Later.alloc _ _
  have l3 : Later w2 w3 := h3 ▸ Later.alloc _ _
  have l4 : Later w3 w4 := h4 ▸ Later.alloc _ _
  have l5 : Later w4 w5 := h5 ▸ Later.alloc _ _
  have l1 : Later w w1 := h1 ▸ Later.alloc _ _
  rw [← h1, ← h2, ← h3, ← h4, ← h5]
  clear h1 h2 h3 h4 h5
  have l25 := Later.trans _ _ _ l2 (Later.trans _ _ _ l3 (Later.trans _ _ _ l4 l5))
  have l35 := Later.trans _ _ _ l3 (Later.trans _ _ _ l4 l5)
  have l45 := Later.trans _ _ _ l4 l5
  rw [e6]
  refine bodyPost_ret (results_tmp rfl _ _ _) rfl ⟨_, rfl, ⟨w5.heap.size, rfl, by omega, fun k hk => ?_⟩, (Later.trans _ _ _ l1 l25).alloc' _⟩
  have hal := fun o => Later.alloc w5 o
  match k, hk with
  | 0, _ => exact ⟨w.heap.size, by omega, cell_obj (i := 0) (obj_new w5 _) rfl, (s1.later l25).later (hal _)⟩
  | 1, _ => exact ⟨w.heap.size + 1, by omega, cell_obj (i := 1) (obj_new w5 _) rfl, (s2.later l35).later (hal _)⟩
  | 2, _ => exact ⟨w.heap.size + 1 + 1, by omega, cell_obj (i := 2) (obj_new w5 _) rfl, (s3.later l45).later (hal _)⟩
  | 3, _ => exact ⟨w.heap.size + 1 + 1 + 1, by omega, cell_obj (i := 3) (obj_new w5 _) rfl, (s4.later l5).later (hal _)⟩
  | 4, _ => exact ⟨w.heap.size + 1 + 1 + 1 + 1, by omega, cell_obj (i := 4) (obj_new w5 _) rfl, s5.later (hal _)⟩
theorem words_any (w : World) : Calls Tryz.prog 100 #[] w fun e w' => ∃ b, e = .returned (.slice (some ⟨b, 0, none⟩) 6 6) ∧ StrsAt w' b 0 wordsW ∧ Later w w' := by
  go_enter Tryz.func100, Tryz.ntmps100
  go_wp2_with fail
  refine bodyPost_ret (results_tmp rfl _ _ _) rfl ⟨w.heap.size, rfl, strs_new w wordsW _ _ rfl, Later.alloc _ _⟩
end Go.Proofs.YtgajofkeidjbgaaGreatDoor
namespace Go.Proofs.YtgajofkeidjbgaaGreatDoor
set_option linter.unusedSimpArgs false
set_option linter.unusedVariables false
open Go.RowKit

attribute [local go_sem high] tok_f0 tok_f1 tok_f2
def opW (neg : Bool) : List UInt8 := if neg = true then minusW else notW
/-- the arguments of a call, in a row of its own. -/
def ArgsIn (S : Nat → Prop) (w : World) (a : Value) (vs : List Value) : Prop := w.ownsRow 0 59 1 a vs.length vs ∧ ∀ g, a.ownBlock = some g → S g
theorem ArgsIn.kept {S S' : Nat → Prop} {w w' : World} {a : Value} {vs : List Value} (h : ArgsIn S w a vs) (k : Keeps S' w w') (hs : ∀ b, S b → S' b) : ArgsIn S w' a vs := by
  obtain ⟨⟨h1, h2⟩, h3⟩ := h
  refine ⟨⟨h1, h2.imp id ?_⟩, h3⟩
  rintro ⟨g, cap, cur, hv, hb, hg, hr⟩
  exact ⟨g, cap, cur, hv, hb, k.obj (hs _ (h3 g (by rw [hv]; rfl))) hg, hr⟩
theorem obj_lt {w : World} {b : Nat} {o : Obj} (h : w.heap[b]? = some o) : b < w.heap.size := (Array.getElem?_eq_some_iff.1 h).1
mutual
/-- the tree in memory, in blocks of 'S'. -/
def NodeIn (S : Nat → Prop) (w : World) : Value → Ex → Prop
  | v, .lit x => ∃ B, S B ∧ v = .iface 161 (.pointer (some ⟨B, 0, none⟩)) ∧ w.heap[B]? = some (.cells #[.int .i64 x.k, .int .i64 x.n, .string x.t] 163 (0, 0))
  | v, .name s p => ∃ B, S B ∧ v = .iface 164 (.pointer (some ⟨B, 0, none⟩)) ∧ w.heap[B]? = some (.cells #[.string (strB s), .int .i64 (p : Int)] 167 (0, 0))
  | v, .un neg p x => ∃ B u, S B ∧ v = .iface 137 (.pointer (some ⟨B, 0, none⟩)) ∧ w.heap[B]? = some (.cells #[.string (strB (opW neg)), .int .i64 (p : Int), u] 139 (0, 0)) ∧ NodeIn S w u x
  | v, .bin o p x y => ∃ B u1 u2, S B ∧ v = .iface 140 (.pointer (some ⟨B, 0, none⟩)) ∧ w.heap[B]? = some (.cells #[.string (strB o), .int .i64 (p : Int), u1, u2] 142 (0, 0)) ∧ NodeIn S w u1 x ∧ NodeIn S w u2 y
  | v, .call f p l => ∃ B vs a, S B ∧ v = .iface 168 (.pointer (some ⟨B, 0, none⟩)) ∧ w.heap[B]? = some (.cells #[.string (strB f), .int .i64 (p : Int), a] 174 (0, 0)) ∧
      ArgsIn S w a vs ∧ NodesIn S w vs l
def NodesIn (S : Nat → Prop) (w : World) : List Value → List Ex → Prop
  | [], [] => True
  | v :: vs, x :: l => NodeIn S w v x ∧ NodesIn S w vs l
  | _, _ => False
end
mutual
theorem NodeIn.kept {S S' : Nat → Prop} {w w' : World} (k : Keeps S' w w') (hs : ∀ b, S b → S' b) : ∀ (v : Value) (x : Ex), NodeIn S w v x → NodeIn S w' v x
  | v, .lit x, h => by
    unfold NodeIn at h ⊢
    obtain ⟨B, h1, h2, h3⟩ := h
    exact ⟨B, h1, h2, k.obj (hs _ h1) h3⟩
  | v, .name s p, h => by
    unfold NodeIn at h ⊢
    obtain ⟨B, h1, h2, h3⟩ := h
    exact ⟨B, h1, h2, k.obj (hs _ h1) h3⟩
  | v, .un neg p x, h => by
    unfold NodeIn at h ⊢
    obtain ⟨B, u, h1, h2, h3, h4⟩ := h
    exact ⟨B, u, h1, h2, k.obj (hs _ h1) h3, NodeIn.kept k hs u x h4⟩
  | v, .bin o p x y, h => by
    unfold NodeIn at h ⊢
    obtain ⟨B, u1, u2, h1, h2, h3, h4, h5⟩ := h
    exact ⟨B, u1, u2, h1, h2, k.obj (hs _ h1) h3, NodeIn.kept k hs u1 x h4, NodeIn.kept k hs u2 y h5⟩
  | v, .call f p l, h => by
    unfold NodeIn at h ⊢
    obtain ⟨B, vs, a, h1, h2, h3, h4, h5⟩ := h
    exact ⟨B, vs, a, h1, h2, k.obj (hs _ h1) h3, h4.kept k hs, NodesIn.kept k hs vs l h5⟩
theorem NodesIn.kept {S S' : Nat → Prop} {w w' : World} (k : Keeps S' w w') (hs : ∀ b, S b → S' b) : ∀ (vs : List Value) (l : List Ex), NodesIn S w vs l → NodesIn S w' vs l
  | [], [], h => by unfold NodesIn; trivial
  | v :: vs, x :: l, h => by
    unfold NodesIn at h ⊢
    exact ⟨NodeIn.kept k hs v x h.1, NodesIn.kept k hs vs l h.2⟩
  | [], _ :: _, h => by unfold NodesIn at h; exact h.elim
  | _ :: _, [], h => by unfold NodesIn at h; exact h.elim
end
/-- tokens that end as a text does. -/
def EndL (l : List Tok) : Prop := (∀ t ∈ l, TokOk t ∧ t.t.length ≤ 1048576) ∧ ∃ h : l ≠ [], (l.getLast h).k = 0
theorem EndL.cons {l : List Tok} (h : EndL l) : ∃ t r, l = t :: r ∧ TokOk t ∧ (t.k ≠ 0 → EndL r) := by
  obtain ⟨h1, h2, h3⟩ := h
  cases l with
  | nil => exact absurd rfl h2
  | cons t r =>
    refine ⟨t, r, rfl, (h1 t (by simp)).1, fun hk => ⟨fun x hx => h1 x (by simp [hx]), ?_⟩⟩
    cases r with
    | nil => exact absurd h3 hk
    | cons u r => exact ⟨by simp, by simpa using h3⟩
mutual
theorem NodeIn.mono {S S' : Nat → Prop} {w : World} (hs : ∀ b, b < w.heap.size → S b → S' b) : ∀ (v : Value) (x : Ex), NodeIn S w v x → NodeIn S' w v x
  | v, .lit x, h => by
    unfold NodeIn at h ⊢
    obtain ⟨B, h1, h2, h3⟩ := h
    exact ⟨B, hs _ (obj_lt h3) h1, h2, h3⟩
  | v, .name s p, h => by
    unfold NodeIn at h ⊢
    obtain ⟨B, h1, h2, h3⟩ := h
    exact ⟨B, hs _ (obj_lt h3) h1, h2, h3⟩
  | v, .un neg p x, h => by
    unfold NodeIn at h ⊢
    obtain ⟨B, u, h1, h2, h3, h4⟩ := h
    exact ⟨B, u, hs _ (obj_lt h3) h1, h2, h3, NodeIn.mono hs u x h4⟩
  | v, .bin o p x y, h => by
    unfold NodeIn at h ⊢
    obtain ⟨B, u1, u2, h1, h2, h3, h4, h5⟩ := h
    exact ⟨B, u1, u2, hs _ (obj_lt h3) h1, h2, h3, NodeIn.mono hs u1 x h4, NodeIn.mono hs u2 y h5⟩
  | v, .call f p l, h => by
    unfold NodeIn at h ⊢
    obtain ⟨B, vs, a, h1, h2, h3, h4, h5⟩ := h
    exact ⟨B, vs, a, hs _ (obj_lt h3) h1, h2, h3, ⟨h4.1, fun g hg => hs _ (h4.1.lt g hg).2 (h4.2 g hg)⟩, NodesIn.mono hs vs l h5⟩
theorem NodesIn.mono {S S' : Nat → Prop} {w : World} (hs : ∀ b, b < w.heap.size → S b → S' b) : ∀ (vs : List Value) (l : List Ex), NodesIn S w vs l → NodesIn S' w vs l
  | [], [], h => by unfold NodesIn; trivial
  | v :: vs, x :: l, h => by
    unfold NodesIn at h ⊢
    exact ⟨NodeIn.mono hs v x h.1, NodesIn.mono hs vs l h.2⟩
  | [], _ :: _, h => by unfold NodesIn at h; exact h.elim
  | _ :: _, [], h => by unfold NodesIn at h; exact h.elim
end
theorem EndL.short {l : List Tok} (h : EndL l) : ∀ t ∈ l, t.t.length ≤ 1048576 := fun t ht => (h.1 t ht).2
/-- what a function of the parser answers: a tree, fewer tokens, or a fault. -/
def POut (w : World) (P d : Nat) (l : List Tok) (R : Res → Prop) (e : Ending) (w' : World) : Prop :=
  Keeps (fun b => b ≠ P) w w' ∧ ∃ r : Res, R r ∧ match r with
    | .error f => Fails f.1 f.2 e
    | .ok x => ∃ v, e = .returned v ∧ NodeIn (fun b => b ≠ P ∧ w.heap.size ≤ b) w' v x.1 ∧ PAt w' P d x.2 ∧ EndL x.2 ∧ x.2.length < l.length
/-- the type of a tree's pointer. -/
def nodeT : Ex → TypeId
  | .lit _ => 161
  | .name _ _ => 164
  | .un _ _ _ => 137
  | .bin _ _ _ _ => 140
  | .call _ _ _ => 168
theorem NodeIn.ptr {S : Nat → Prop} {w : World} {v : Value} {x : Ex} (h : NodeIn S w v x) : ∃ N, v = .iface (nodeT x) (.pointer (some ⟨N, 0, none⟩)) := by
  cases x <;> (unfold NodeIn at h)
  · obtain ⟨B, -, h, -⟩ := h; exact ⟨B, h⟩
  · obtain ⟨B, -, h, -⟩ := h; exact ⟨B, h⟩
  · obtain ⟨B, u, -, h, -⟩ := h; exact ⟨B, h⟩
  · obtain ⟨B, u1, u2, -, h, -⟩ := h; exact ⟨B, h⟩
  · obtain ⟨B, vs, a, -, h, -⟩ := h; exact ⟨B, h⟩
end Go.Proofs.YtgajofkeidjbgaaGreatDoor
