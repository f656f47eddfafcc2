/-
  PROVED HERE: what a row of the expressions' laws lists (tables, errors, the variable of a type, the table of spaces) gives a walk; a world that meets the list.
  PROVED HERE: in plain Lean: the order of values, rows is total; there is one list of the same rows in their order. No program of its own.
  PROVED HERE: expressions in plain Lean: their kinds, their values; what the program makes of them is what the document says.
-/
import Derived.Test.YtgajofkeidjbgaaGreatDoorGTabErr
import Derived.Test.YtgajofkeidjbgaaGreatDoorGExprLex2
import Derived.Test.YtgajofkeidjbgaaGreatDoorGLexS
import Derived.Test.YtgajofkeidjbgaaGreatDoorGExprPlain
namespace Go.Proofs.YtgajofkeidjbgaaGreatDoor
set_option linter.unusedSimpArgs false
set_option linter.unusedVariables false
open Go.ChangeShapes Go.WideShapes Go.RowKit

abbrev exErr : List (String × DataW Unit) := [("math/bits.deBruijn32tab", Rows.laid_math_bits_deBruijn32tab), ("math/bits.deBruijn64tab", Rows.laid_math_bits_deBruijn64tab), ("internal/strconv.uint64pow10", Rows.laid_internal_strconv_uint64pow10), ("strconv.ErrRange", Rows.laid_strconv_ErrRange), ("strconv.ErrSyntax", Rows.laid_strconv_ErrSyntax), ("unicode.White_Space", Rows.laid_unicode_White_Space), ("strings.asciiSpace", Rows.laid_strings_asciiSpace)]
abbrev exList : List (String × DataW Unit) := [("math/bits.deBruijn32tab", Rows.laid_math_bits_deBruijn32tab), ("math/bits.deBruijn64tab", Rows.laid_math_bits_deBruijn64tab), ("internal/strconv.uint64pow10", Rows.laid_internal_strconv_uint64pow10), ("errors.errorType", Rows.laid_errors_errorType), ("strconv.ErrRange", Rows.laid_strconv_ErrRange), ("strconv.ErrSyntax", Rows.laid_strconv_ErrSyntax), ("unicode.White_Space", Rows.laid_unicode_White_Space), ("strings.asciiSpace", Rows.laid_strings_asciiSpace)]
theorem space_data : (Rows.laid_strings_asciiSpace : DataW Unit) = Lib.tabData .u8 Lib.asciiSpaceTab := by kernel_rfl
theorem space_met {W : World} {rest : List (String × DataW Unit)} (h : laidMet Tryz.prog ((("strings.asciiSpace"), Rows.laid_strings_asciiSpace) :: rest) W) : SpaceTab W := by
  rw [space_data] at h
  exact Lib.tabIs_of_head (g := 1) (t := 179) (e := 5) (n := 256) (by kernel_rfl) (by kernel_rfl) (by kernel_rfl) (by kernel_rfl) (by kernel_rfl) (by kernel_rfl) h
theorem exErr_of {W : World} (h1 : laidMet Tryz.prog exErr W) : (ErrVars W ∧ PowTab W) ∧ SpaceTab W := by
  have h2 := laidMet.tail (laidMet.tail h1)
  have h3 := laidMet.tail h2
  exact ⟨⟨⟨syn_met (laidMet.tail h3), rng_met h3⟩, tabs_met h2⟩, space_met (laidMet.tail (laidMet.tail (laidMet.tail h3)))⟩
theorem ex_of {W : World} (h : laidMetH Tryz.prog exList W) : ((ErrVars W ∧ PowTab W) ∧ SpaceTab W) ∧ Laid W := by
  have h' : laidMet Tryz.prog exErr W ∧ handlesMet Tryz.prog (laidList : List (String × DataW Unit)) W := h
  exact ⟨exErr_of h'.1, laid_of ⟨laidMet_nil _ _, h'.2⟩⟩
noncomputable def exWorld (os : Os) : World := (laidWorld os).layVars Tryz.prog exErr
theorem exWorld_data (os : Os) : laidMet Tryz.prog exErr (exWorld os) := by
  have e1 : (exErr.filter fun x => (exErr.map (·.1)).contains x.1) = exErr := List.filter_eq_self.2 fun x hx => List.contains_iff_mem.2 (List.mem_map.2 ⟨x, hx, rfl⟩)
  have e2 : (exErr.filter fun x => !(exErr.map (·.1)).contains x.1) = [] := List.filter_eq_nil_iff.2 fun x hx => by rw [List.contains_iff_mem.2 (List.mem_map.2 ⟨x, hx, rfl⟩)]; simp
  exact laidMet_layVars (w0 := laidWorld os) (exErr.map (·.1)) [] (by rw [e1]; rfl) (by rw [e1]; kernel_rfl) (by rw [e1]; kernel_rfl) (by rw [e2]; exact LaidIn.none)
theorem exWorld_met (os : Os) (args : Array Value) : laidMetH Tryz.prog exList ((exWorld os).forCall (fun _ _ => 0) ⟨#[], args, []⟩).memory :=
  laidMetH_of_parts (l := exList) ((exWorld_data os).of_heap (by simp [World.memory, World.forCall, Input.heap])) (by kernel_rfl)
end Go.Proofs.YtgajofkeidjbgaaGreatDoor
namespace Go.Proofs.YtgajofkeidjbgaaGreatDoor
set_option linter.unusedSimpArgs false
set_option linter.unusedVariables false
open Go Go.RowKit

/-- a comparison that is an order, total. -/
structure TotalC {α : Type} (c : α → α → Int) : Prop where
  eq : ∀ x y, c x y = 0 ↔ x = y
  neg : ∀ x y, c y x = -(c x y)
  trans : ∀ x y z, c x y < 0 → c y z < 0 → c x z < 0
theorem cmpI_total : TotalC cmpI := by
  refine ⟨fun x y => ?_, fun x y => ?_, fun x y z h1 h2 => ?_⟩ <;> unfold cmpI at * <;> (repeat' split) <;> (repeat' split at *) <;> omega
def lex2 {α β : Type} (c : α → α → Int) (d : β → β → Int) (x y : α × β) : Int := if c x.1 y.1 = 0 then d x.2 y.2 else c x.1 y.1
theorem lex2_total {α β : Type} {c : α → α → Int} {d : β → β → Int} (hc : TotalC c) (hd : TotalC d) : TotalC (lex2 c d) := by
  refine ⟨fun x y => ?_, fun x y => ?_, fun x y z h1 h2 => ?_⟩
  · unfold lex2
    by_cases h : c x.1 y.1 = 0
    · rw [if_pos h, hd.eq]
      have := (hc.eq _ _).1 h
      exact ⟨fun e => Prod.ext this e, fun e => by rw [e]⟩
    · rw [if_neg h]
      exact ⟨fun e => absurd e h, fun e => absurd ((hc.eq _ _).2 (by rw [e])) h⟩
  · unfold lex2
    have e := hc.neg x.1 y.1
    by_cases h : c x.1 y.1 = 0
    · rw [if_pos h, if_pos (by omega)]; exact hd.neg _ _
    · rw [if_neg h, if_neg (by omega)]; exact e
  · unfold lex2 at *
    by_cases ha : c x.1 y.1 = 0
    · rw [if_pos ha] at h1
      have ea := (hc.eq _ _).1 ha
      rw [ea]
      by_cases hb : c y.1 z.1 = 0
      · rw [if_pos hb] at h2 ⊢
        exact hd.trans _ _ _ h1 h2
      · rw [if_neg hb] at h2 ⊢
        exact h2
    · rw [if_neg ha] at h1
      by_cases hb : c y.1 z.1 = 0
      · have eb := (hc.eq _ _).1 hb
        rw [← eb, if_neg ha]
        exact h1
      · rw [if_neg hb] at h2
        have ht := hc.trans _ _ _ h1 h2
        rw [if_neg (by omega)]
        exact ht
def lexL {α : Type} (c : α → α → Int) : List α → List α → Int
  | [], [] => 0
  | [], _ :: _ => -1
  | _ :: _, [] => 1
  | x :: a, y :: b => if c x y = 0 then lexL c a b else c x y
theorem lexL_total {α : Type} {c : α → α → Int} (hc : TotalC c) : TotalC (lexL c) := by
  refine ⟨?_, ?_, ?_⟩
  · intro x
    induction x with
    | nil => intro y; cases y <;> simp [lexL]
    | cons x a ih =>
      intro y
      cases y with
      | nil => simp [lexL]
      | cons y b =>
        unfold lexL
        by_cases h : c x y = 0
        · rw [if_pos h, ih, (hc.eq _ _).1 h]; simp
        · rw [if_neg h]
          exact ⟨fun e => absurd e h, fun e => absurd ((hc.eq _ _).2 (List.cons.inj e).1) h⟩
  · intro x
    induction x with
    | nil => intro y; cases y <;> simp [lexL]
    | cons x a ih =>
      intro y
      cases y with
      | nil => simp [lexL]
      | cons y b =>
        unfold lexL
        have e := hc.neg x y
        by_cases h : c x y = 0
        · rw [if_pos h, if_pos (by omega)]; exact ih b
        · rw [if_neg h, if_neg (by omega)]; exact e
  · intro x
    induction x with
    | nil =>
      intro y z h1 h2
      cases z with
      | nil => cases y <;> simp [lexL] at h1 h2
      | cons z d => simp [lexL]
    | cons x a ih =>
      intro y z h1 h2
      cases y with
      | nil => simp [lexL] at h1
      | cons y b =>
        cases z with
        | nil => simp [lexL] at h2
        | cons z d =>
          unfold lexL at h1 h2 ⊢
          by_cases ha : c x y = 0
          · rw [if_pos ha] at h1
            rw [(hc.eq _ _).1 ha]
            by_cases hb : c y z = 0
            · rw [if_pos hb] at h2 ⊢
              exact ih _ _ h1 h2
            · rw [if_neg hb] at h2 ⊢
              exact h2
          · rw [if_neg ha] at h1
            by_cases hb : c y z = 0
            · rw [← (hc.eq _ _).1 hb, if_neg ha]
              exact h1
            · rw [if_neg hb] at h2
              have ht := hc.trans _ _ _ h1 h2
              rw [if_neg (by omega)]
              exact ht
theorem TotalC.comap {α β : Type} {c : α → α → Int} (hc : TotalC c) (f : β → α) (hf : ∀ x y, f x = f y → x = y) : TotalC fun x y => c (f x) (f y) :=
  ⟨fun x y => by rw [hc.eq]; exact ⟨hf x y, fun e => by rw [e]⟩, fun x y => hc.neg _ _, fun x y z => hc.trans _ _ _⟩
theorem TotalC.congr {α : Type} {c d : α → α → Int} (hc : TotalC c) (h : ∀ x y, d x y = c x y) : TotalC d := by
  have : d = c := funext fun x => funext fun y => h x y
  rw [this]; exact hc
def cmpB (a b : UInt8) : Int := cmpI a.toNat b.toNat
theorem cmpB_total : TotalC cmpB := cmpI_total.comap (fun x : UInt8 => (x.toNat : Int)) fun x y h => UInt8.toNat_inj.1 (by omega)
theorem bytes_lex : ∀ a b : List UInt8, Lib.compareBytes a b = lexL cmpB a b
  | [], [] => rfl
  | [], _ :: _ => rfl
  | _ :: _, [] => rfl
  | x :: a, y :: b => by
    have ih := bytes_lex a b
    unfold Lib.compareBytes lexL cmpB cmpI
    rw [ih]
    simp only [UInt8.lt_iff_toNat_lt]
    by_cases h : x.toNat < y.toNat
    · rw [if_pos h, if_neg (by rw [if_pos (by omega)]; omega), if_pos (by omega)]
    · by_cases h' : y.toNat < x.toNat
      · rw [if_neg h, if_pos h', if_neg (by rw [if_neg (by omega), if_pos (by omega)]; omega), if_neg (by omega), if_pos (by omega)]
      · rw [if_neg h, if_neg h', if_pos (by rw [if_neg (by omega), if_neg (by omega)])]
        rfl
theorem compareV_total : TotalC compareV := by
  refine ((lex2_total cmpI_total (lex2_total cmpI_total (lexL_total cmpB_total))).comap (fun x : Val => (x.k, x.n, x.t.data.toList)) fun x y h => ?_).congr fun x y => ?_
  · simp only [Prod.mk.injEq] at h
    obtain ⟨k1, n1, t1⟩ := x
    obtain ⟨k2, n2, t2⟩ := y
    simp only at h
    obtain ⟨rfl, rfl, h3⟩ := h
    have : t1 = t2 := by cases t1; cases t2; simp only at h3; congr 1; exact Array.toList_inj.1 h3
    rw [this]
  · unfold compareV
    rw [orL3, bytes_lex]
    rfl
theorem compareL_lex : ∀ a b : List Val, compareL a b = lexL compareV a b
  | [], [] => rfl
  | [], _ :: _ => rfl
  | _ :: _, [] => rfl
  | x :: a, y :: b => by unfold compareL lexL; rw [compareL_lex a b]
theorem compareR_total : TotalC compareR := by
  refine ((lex2_total cmpI_total (lexL_total compareV_total)).comap (fun x : Row => (x.time, x.vals)) fun x y h => ?_).congr fun x y => ?_
  · simp only [Prod.mk.injEq] at h
    obtain ⟨t1, l1⟩ := x
    obtain ⟨t2, l2⟩ := y
    simp only at h
    rw [h.1, h.2]
  · unfold compareR
    rw [orL2, compareL_lex]
    rfl
theorem beforeR_cmp (x y : Row) : beforeR x y = decide (compareR x y < 0) := by
  have h := compareR_eq x y
  have e := compareR_eq y x
  have n := compareR_total.neg x y
  rw [h, e] at n
  rw [h]
  unfold signI at *
  cases hb : beforeR x y <;> cases hc : beforeR y x <;> simp [hb, hc] at n ⊢
/-- rows in their order. -/
def SortedR (l : List Row) : Prop := l.Pairwise fun a b => 0 ≤ compareR b a
theorem sortedR_unique : ∀ {a b : List Row}, SortedR a → SortedR b → a.Perm b → a = b
  | [], b, _, _, hp => (List.nil_perm.1 hp).symm
  | x :: a, [], _, _, hp => absurd (List.perm_nil.1 hp) (by simp)
  | x :: a, y :: b, ha, hb, hp => by
    have pa := List.pairwise_cons.1 ha
    have pb := List.pairwise_cons.1 hb
    have hxy : x = y := by
      have h1 : 0 ≤ compareR y x := by
        rcases List.mem_cons.1 (hp.mem_iff.2 List.mem_cons_self : y ∈ x :: a) with rfl | hm
        · have := (compareR_total.eq y y).2 rfl; omega
        · exact pa.1 y hm
      have h2 : 0 ≤ compareR x y := by
        rcases List.mem_cons.1 (hp.mem_iff.1 List.mem_cons_self : x ∈ y :: b) with rfl | hm
        · have := (compareR_total.eq x x).2 rfl; omega
        · exact pb.1 x hm
      have := compareR_total.neg x y
      exact (compareR_total.eq x y).1 (by omega)
    subst hxy
    rw [sortedR_unique pa.2 pb.2 (List.perm_cons x |>.1 hp)]
end Go.Proofs.YtgajofkeidjbgaaGreatDoor
namespace Go.Proofs.YtgajofkeidjbgaaGreatDoor
set_option linter.unusedSimpArgs false
set_option linter.unusedVariables false
open Go Go.RowKit

structure Col where
  s : List UInt8
  k : Int
def colAt (cs : List Col) (s : List UInt8) : Option Nat := cs.findIdx? fun c => c.s == s
abbrev catW : List UInt8 := [43, 43]
abbrev andW : List UInt8 := [97, 110, 100]
abbrev orW : List UInt8 := [111, 114]
abbrev lenW : List UInt8 := [108, 101, 110]
abbrev absW : List UInt8 := [97, 98, 115]
abbrev cutW : List UInt8 := [99, 117, 116]
abbrev isnullW : List UInt8 := [105, 115, 110, 117, 108, 108]
abbrev coalW : List UInt8 := [99, 111, 97, 108, 101, 115, 99, 101]
abbrev ifW : List UInt8 := [105, 102]
def opsW : List (List UInt8) := [orW, andW, [61], [60, 62], [60], [60, 61], [62], [62, 61], [43], [45], catW, [42], [47], [37]]
def levelO (o : List UInt8) : Nat := if o ∈ lvlOps 0 then 0 else if o ∈ lvlOps 1 then 1 else if o ∈ lvlOps 2 then 2 else if o ∈ lvlOps 3 then 3 else if o ∈ lvlOps 4 then 4 else 9
/-- the kind that an operator makes. -/
def binK (o : List UInt8) (a b : Int) : Option Int :=
  if levelO o < 2 then (if a = 2 ∧ b = 2 then some 2 else none)
  else if levelO o = 2 then (if b = a then some 2 else none)
  else if o = catW then (if a = 3 ∧ b = 3 then some 3 else none)
  else if a = 1 ∧ b = 1 then some 1 else none
/-- what a function takes, and makes (0: any, 9: that of the other ones of this sort). -/
def argsF (f : List UInt8) : Option (List Int × Int) :=
  if f = lenW then some ([3], 1) else if f = absW then some ([1], 1) else if f = cutW then some ([3, 1], 3)
  else if f = isnullW then some ([0], 2) else if f = coalW then some ([9, 9], 9) else if f = ifW then some ([2, 9, 9], 9) else none
def stepF (s : Int × Bool) (x : Int × Int) : Int × Bool :=
  if s.2 = false ∨ x.1 = 0 then s else if x.1 = 9 then (if s.1 = 0 then (x.2, s.2) else (s.1, s.2 && decide (x.2 = s.1))) else (s.1, s.2 && decide (x.2 = x.1))
def callK (f : List UInt8) (ks : List Int) : Option Int := match argsF f with
  | none => none
  | some (ar, out) =>
    if ar.length ≠ ks.length then none
    else if ((ar.zip ks).foldl stepF (0, true)).2 = true then some (if out = 9 then ((ar.zip ks).foldl stepF (0, true)).1 else out) else none
mutual
def kindP (cs : List Col) : Ex → Except Fault Int
  | .lit v => .ok v.k
  | .name s p => match colAt cs s with
    | none => .error (2, p)
    | some i => .ok (cs.getD i ⟨[], 0⟩).k
  | .un neg p x => match kindP cs x with
    | .error e => .error e
    | .ok k => if k = (if neg = true then 1 else 2) then .ok (if neg = true then 1 else 2) else .error (3, p)
  | .bin o p x y => match kindP cs x with
    | .error e => .error e
    | .ok a => match kindP cs y with
      | .error e => .error e
      | .ok b => match binK o a b with
        | none => .error (3, p)
        | some k => .ok k
  | .call f p l => match argsF f with
    | none => .error (2, p)
    | some _ => match kindsP cs l with
      | .error e => .error e
      | .ok ks => match callK f ks with
        | none => .error (3, p)
        | some k => .ok k
def kindsP (cs : List Col) : List Ex → Except Fault (List Int)
  | [] => .ok []
  | x :: l => match kindP cs x with
    | .error e => .error e
    | .ok k => match kindsP cs l with
      | .error e => .error e
      | .ok ks => .ok (k :: ks)
end
instance : DecidableEq Val := fun x y => decidable_of_iff (x.k = y.k ∧ x.n = y.n ∧ x.t = y.t) (by cases x; cases y; simp)
def intV (n : Int) : Val := ⟨1, n, ByteArray.empty⟩
def truthV (b : Bool) : Val := ⟨2, if b = true then 1 else 0, ByteArray.empty⟩
def logicV (a b d : Val) : Val := if a = d ∨ b = d then d else if a.k = 0 ∨ b.k = 0 then nothing else a
def arithV (o : List UInt8) (a b : Val) : Val :=
  if o = [61] then truthV (decide (compareV a b = 0)) else if o = [60, 62] then truthV (decide (compareV a b ≠ 0))
  else if o = [60] then truthV (decide (compareV a b < 0)) else if o = [60, 61] then truthV (decide (compareV a b ≤ 0))
  else if o = [62] then truthV (decide (0 < compareV a b)) else if o = [62, 61] then truthV (decide (0 ≤ compareV a b))
  else if o = catW then textV ((a.t.data.toList ++ b.t.data.toList).take 60)
  else if o = [43] then intV (wrap64 (a.n + b.n)) else if o = [45] then intV (wrap64 (a.n - b.n)) else if o = [42] then intV (wrap64 (a.n * b.n))
  else if b.n = 0 then nothing else if o = [47] then intV (wrap64 (a.n.tdiv b.n)) else intV (wrap64 (a.n.tmod b.n))
def binV (o : List UInt8) (a b : Val) : Val :=
  if o = andW then logicV a b (truthV false) else if o = orW then logicV a b (truthV true)
  else if a.k = 0 ∨ b.k = 0 then nothing else arithV o a b
def anyNull (l : List Val) : Bool := l.any fun v => decide (v.k = 0)
def callV (f : List UInt8) (l : List Val) : Val :=
  if f = lenW then (if anyNull l = true then nothing else intV (l.getD 0 nothing).t.size)
  else if f = absW then (if anyNull l = true then nothing else intV (max (l.getD 0 nothing).n (wrap64 (-(l.getD 0 nothing).n))))
  else if f = cutW then (if anyNull l = true then nothing else textV ((l.getD 0 nothing).t.data.toList.take (max 0 (min ((l.getD 0 nothing).t.size : Int) (l.getD 1 nothing).n)).toNat))
  else if f = isnullW then truthV (decide ((l.getD 0 nothing).k = 0))
  else if f = coalW then (if (l.getD 0 nothing).k = 0 then l.getD 1 nothing else l.getD 0 nothing)
  else if l.getD 0 nothing = truthV true then l.getD 1 nothing else l.getD 2 nothing
mutual
def evalP (cs : List Col) (row : List Val) : Ex → Val
  | .lit v => v
  | .name s _ => match colAt cs s with
    | none => nothing
    | some i => row.getD i nothing
  | .un neg _ x => if (evalP cs row x).k = 0 then evalP cs row x else if neg = true then intV (wrap64 (-(evalP cs row x).n)) else truthV (decide ((evalP cs row x).n = 0))
  | .bin o _ x y => binV o (evalP cs row x) (evalP cs row y)
  | .call f _ l => callV f (evalsP cs row l)
def evalsP (cs : List Col) (row : List Val) : List Ex → List Val
  | [] => []
  | x :: l => evalP cs row x :: evalsP cs row l
end

/-! a tree as the parser makes it -/
mutual
def ExOk : Ex → Prop
  | .lit v => validV v = true ∧ IntOk v ∧ (v.k = 1 ∨ v.k = 2 ∨ v.k = 3)
  | .name _ _ => True
  | .un _ _ x => ExOk x
  | .bin o _ x y => o ∈ opsW ∧ ExOk x ∧ ExOk y
  | .call _ _ l => ExsOk l
def ExsOk : List Ex → Prop
  | [] => True
  | x :: l => ExOk x ∧ ExsOk l
end
def K3 (k : Int) : Prop := k = 1 ∨ k = 2 ∨ k = 3
def ColsOk (cs : List Col) : Prop := ∀ c ∈ cs, K3 c.k
/-- a value of a kind, or null. -/
def ValOf (v : Val) (k : Int) : Prop := validV v = true ∧ IntOk v ∧ (v.k = 0 ∨ v.k = k)
def FitsOk (cs : List Col) (row : List Val) : Prop := row.length = cs.length ∧ ∀ i (h : i < row.length) (h' : i < cs.length), ValOf row[i] cs[i].k
theorem colAt_some {cs : List Col} {s : List UInt8} {i : Nat} (h : colAt cs s = some i) : ∃ h' : i < cs.length, cs[i].s = s := by
  unfold colAt at h
  obtain ⟨h1, h2, -⟩ := List.findIdx?_eq_some_iff_getElem.1 h
  exact ⟨h1, by simpa using h2⟩
theorem kind_name {cs : List Col} (hc : ColsOk cs) {s : List UInt8} {i : Nat} (h : colAt cs s = some i) : K3 (cs.getD i ⟨[], 0⟩).k := by
  obtain ⟨h1, -⟩ := colAt_some h
  rw [List.getD_eq_getElem?_getD, List.getElem?_eq_getElem h1]
  exact hc _ (List.getElem_mem _)
theorem wrap64_ok (n : Int) : -9223372036854775808 ≤ wrap64 n ∧ wrap64 n ≤ 9223372036854775807 := by unfold wrap64; omega
theorem intV_of {n : Int} (h : -9223372036854775808 ≤ n ∧ n ≤ 9223372036854775807) : ValOf (intV n) 1 := ⟨(by decide +kernel : (str ByteArray.empty).isEmpty = true), h, .inr rfl⟩
theorem truthV_of (b : Bool) : ValOf (truthV b) 2 := by cases b <;> exact ⟨by decide +kernel, by unfold IntOk truthV; simp, .inr rfl⟩
theorem nothing_of (k : Int) : ValOf nothing k := ⟨by decide +kernel, by unfold IntOk nothing; simp, .inl rfl⟩
theorem textV_of {l : List UInt8} (h : l.length ≤ 60) : ValOf (textV l) 3 := by
  refine ⟨?_, by unfold IntOk textV; simp, .inr rfl⟩
  unfold validV textV
  rw [if_neg (fun h => by cases h), if_neg (fun h => by cases h), if_neg (fun h => by cases h), if_pos rfl]
  have : (strB l).size = l.length := strB_size l
  simp [this, h]
theorem opsW_cases {o : List UInt8} (h : o ∈ opsW) : o = orW ∨ o = andW ∨ o = [61] ∨ o = [60, 62] ∨ o = [60] ∨ o = [60, 61] ∨ o = [62] ∨ o = [62, 61] ∨ o = [43] ∨ o = [45] ∨ o = catW ∨ o = [42] ∨ o = [47] ∨ o = [37] := by
  unfold opsW at h
  simpa only [List.mem_cons, List.not_mem_nil, or_false] using h
theorem bin_of {o : List UInt8} (ho : o ∈ opsW) {a b : Val} {ka kb k : Int} (ha : ValOf a ka) (hb : ValOf b kb) (h : binK o ka kb = some k) (ka3 : K3 ka) : K3 k ∧ ValOf (binV o a b) k := by
  have logic : ∀ d : Bool, ka = 2 → ValOf (logicV a b (truthV d)) 2 := by
    intro d hk
    unfold logicV
    split
    · exact truthV_of d
    · split
      · exact nothing_of 2
      · exact hk ▸ ha
  rcases opsW_cases ho with rfl | rfl | rfl | rfl | rfl | rfl | rfl | rfl | rfl | rfl | rfl | rfl | rfl | rfl
  · have h : (if ka = 2 ∧ kb = 2 then some (2 : Int) else none) = some k := h
    split at h
    · rename_i hk; cases h; exact ⟨.inr (.inl rfl), logic true hk.1⟩
    · cases h
  · have h : (if ka = 2 ∧ kb = 2 then some (2 : Int) else none) = some k := h
    split at h
    · rename_i hk; cases h; exact ⟨.inr (.inl rfl), logic false hk.1⟩
    · cases h
  iterate 6
    · have h : (if kb = ka then some (2 : Int) else none) = some k := h
      split at h
      · cases h
        refine ⟨.inr (.inl rfl), ?_⟩
        show ValOf (if a.k = 0 ∨ b.k = 0 then nothing else truthV _) 2
        split
        · exact nothing_of 2
        · exact truthV_of _
      · cases h
  iterate 2
    · have h : (if ka = 1 ∧ kb = 1 then some (1 : Int) else none) = some k := h
      split at h
      · cases h
        refine ⟨.inl rfl, ?_⟩
        show ValOf (if a.k = 0 ∨ b.k = 0 then nothing else intV (wrap64 _)) 1
        split
        · exact nothing_of 1
        · exact intV_of (wrap64_ok _)
      · cases h
  · have h : (if ka = 3 ∧ kb = 3 then some (3 : Int) else none) = some k := h
    split at h
    · cases h
      refine ⟨.inr (.inr rfl), ?_⟩
      show ValOf (if a.k = 0 ∨ b.k = 0 then nothing else textV (List.take 60 _)) 3
      split
      · exact nothing_of 3
      · exact textV_of (by rw [List.length_take]; omega)
    · cases h
  · have h : (if ka = 1 ∧ kb = 1 then some (1 : Int) else none) = some k := h
    split at h
    · cases h
      refine ⟨.inl rfl, ?_⟩
      show ValOf (if a.k = 0 ∨ b.k = 0 then nothing else intV (wrap64 _)) 1
      split
      · exact nothing_of 1
      · exact intV_of (wrap64_ok _)
    · cases h
  iterate 2
    · have h : (if ka = 1 ∧ kb = 1 then some (1 : Int) else none) = some k := h
      split at h
      · cases h
        refine ⟨.inl rfl, ?_⟩
        show ValOf (if a.k = 0 ∨ b.k = 0 then nothing else if b.n = 0 then nothing else intV (wrap64 _)) 1
        split
        · exact nothing_of 1
        · split
          · exact nothing_of 1
          · exact intV_of (wrap64_ok _)
      · cases h
/-- the kinds of a call's arguments, as the document has it. -/
def callD (f : List UInt8) (ks : List Int) : Option Int :=
  if f = lenW then (if ks = [3] then some 1 else none) else if f = absW then (if ks = [1] then some 1 else none)
  else if f = cutW then (if ks = [3, 1] then some 3 else none) else if f = isnullW then (if ks.length = 1 then some 2 else none)
  else if f = coalW then (match ks with | [a, b] => if a = b then some a else none | _ => none)
  else if f = ifW then (match ks with | [a, b, c] => if a = 2 ∧ b = c then some b else none | _ => none) else none
theorem call_same {f : List UInt8} {ks : List Int} (h : ∀ k ∈ ks, K3 k) : callK f ks = callD f ks := by
  have nz : ∀ k ∈ ks, k ≠ 0 := fun k hk => by rcases h k hk with h | h | h <;> omega
  unfold callK argsF callD
  by_cases h1 : f = lenW
  · simp only [h1, if_true, List.length_cons, List.length_nil]
    match ks, nz with
    | [], _ => rfl
    | [a], _ => by_cases ha : a = 3 <;> simp [stepF, ha]
    | _ :: _ :: _, _ => simp
  rw [if_neg h1, if_neg h1]
  by_cases h2 : f = absW
  · simp only [h2, if_true, List.length_cons, List.length_nil]
    match ks, nz with
    | [], _ => rfl
    | [a], _ => by_cases ha : a = 1 <;> simp [stepF, ha]
    | _ :: _ :: _, _ => simp
  rw [if_neg h2, if_neg h2]
  by_cases h3 : f = cutW
  · simp only [h3, if_true, List.length_cons, List.length_nil]
    match ks, nz with
    | [], _ => rfl
    | [a], _ => simp
    | [a, b], _ => by_cases ha : a = 3 <;> by_cases hb : b = 1 <;> simp [stepF, ha, hb]
    | _ :: _ :: _ :: _, _ => simp
  rw [if_neg h3, if_neg h3]
  by_cases h4 : f = isnullW
  · simp only [h4, if_true, List.length_cons, List.length_nil]
    match ks, nz with
    | [], _ => rfl
    | [a], _ => simp [stepF]
    | _ :: _ :: _, _ => simp
  rw [if_neg h4, if_neg h4]
  by_cases h5 : f = coalW
  · simp only [h5, if_true, List.length_cons, List.length_nil]
    match ks, nz with
    | [], _ => rfl
    | [a], _ => simp
    | [a, b], nz =>
      have ha : a ≠ 0 := nz a (by simp)
      by_cases hb : b = a
      · simp [stepF, ha, hb]
      · have hb' : ¬ a = b := fun e => hb e.symm
        simp [stepF, ha, hb, hb']
    | _ :: _ :: _ :: _, _ => simp
  rw [if_neg h5, if_neg h5]
  by_cases h6 : f = ifW
  · simp only [h6, if_true, List.length_cons, List.length_nil]
    match ks, nz with
    | [], _ => rfl
    | [a], _ => simp
    | [a, b], _ => simp
    | [a, b, c], nz =>
      have hb0 : b ≠ 0 := nz b (by simp)
      by_cases ha : a = 2
      · by_cases hc : c = b
        · simp [stepF, ha, hb0, hc]
        · have hc' : ¬ b = c := fun e => hc e.symm
          simp [stepF, ha, hb0, hc, hc']
      · simp [stepF, ha]
    | _ :: _ :: _ :: _ :: _, _ => simp
  rw [if_neg h6, if_neg h6]
theorem call_of {f : List UInt8} {l : List Val} {ks : List Int} {k : Int} (hl : l.length = ks.length) (hv : ∀ i (h : i < l.length) (h' : i < ks.length), ValOf l[i] ks[i]) (h3 : ∀ k ∈ ks, K3 k) (h : callK f ks = some k) : K3 k ∧ ValOf (callV f l) k := by
  rw [call_same h3] at h
  unfold callD at h
  unfold callV
  by_cases h1 : f = lenW
  · rw [if_pos h1] at h ⊢
    split at h
    · rename_i hk
      cases h
      subst hk
      match l, hl with
      | [a], _ =>
        refine ⟨.inl rfl, ?_⟩
        have := hv 0 (by simp) (by simp)
        simp only [List.getElem_cons_zero] at this
        split
        · exact nothing_of 1
        · rename_i hn
          have ha : a.k = 3 := this.2.2.resolve_left fun e => hn (by simp [anyNull, e])
          have hs : a.t.size ≤ 60 := by
            have := this.1
            unfold validV at this
            rw [if_neg (by omega), if_neg (by omega), if_neg (by omega), if_pos ha] at this
            simp at this; exact this.2
          clear hv h3 this
          exact intV_of (n := (a.t.size : Int)) (by omega)
    · cases h
  rw [if_neg h1] at h ⊢
  by_cases h2 : f = absW
  · rw [if_pos h2] at h ⊢
    split at h
    · rename_i hk
      cases h
      subst hk
      match l, hl with
      | [a], _ =>
        refine ⟨.inl rfl, ?_⟩
        have := hv 0 (by simp) (by simp)
        simp only [List.getElem_cons_zero] at this
        split
        · exact nothing_of 1
        · have h1 := this.2.1
          have h2 := wrap64_ok (-a.n)
          unfold IntOk at h1
          exact intV_of (by show _ ≤ max a.n (wrap64 (-a.n)) ∧ max a.n (wrap64 (-a.n)) ≤ _; omega)
    · cases h
  rw [if_neg h2] at h ⊢
  by_cases h3' : f = cutW
  · rw [if_pos h3'] at h ⊢
    split at h
    · rename_i hk
      cases h
      subst hk
      match l, hl with
      | [a, b], _ =>
        refine ⟨.inr (.inr rfl), ?_⟩
        have := hv 0 (by simp) (by simp)
        simp only [List.getElem_cons_zero] at this
        split
        · exact nothing_of 3
        · rename_i hn
          have ha : a.k = 3 := this.2.2.resolve_left fun e => hn (by simp [anyNull, e])
          have hs : a.t.size ≤ 60 := by
            have := this.1
            unfold validV at this
            rw [if_neg (by omega), if_neg (by omega), if_neg (by omega), if_pos ha] at this
            simp at this; exact this.2
          refine textV_of ?_
          show (List.take _ a.t.data.toList).length ≤ 60
          rw [List.length_take]
          have : a.t.data.toList.length = a.t.size := Array.length_toList
          omega
    · cases h
  rw [if_neg h3'] at h ⊢
  by_cases h4 : f = isnullW
  · rw [if_pos h4] at h ⊢
    split at h
    · cases h; exact ⟨.inr (.inl rfl), truthV_of _⟩
    · cases h
  rw [if_neg h4] at h ⊢
  by_cases h5 : f = coalW
  · rw [if_pos h5] at h ⊢
    match ks, hl, hv, h3, h with
    | [a, b], hl, hv, h3, h =>
      simp only at h
      split at h
      · rename_i hab
        cases h
        subst hab
        refine ⟨h3 _ (by simp), ?_⟩
        match l, hl, hv with
        | [x, y], _, hv =>
          have e0 := hv 0 (by simp) (by simp)
          have e1 := hv 1 (by simp) (by simp)
          simp only [List.getElem_cons_zero, List.getElem_cons_succ] at e0 e1
          show ValOf (if x.k = 0 then y else x) _
          split
          · exact e1
          · exact e0
      · cases h
    | [], _, _, _, h => cases h
    | [_], _, _, _, h => cases h
    | _ :: _ :: _ :: _, _, _, _, h => cases h
  rw [if_neg h5] at h ⊢
  by_cases h6 : f = ifW
  · rw [if_pos h6] at h
    match ks, hl, hv, h3, h with
    | [a, b, c], hl, hv, h3, h =>
      simp only at h
      split at h
      · rename_i hab
        cases h
        obtain ⟨-, rfl⟩ := hab
        refine ⟨h3 _ (by simp), ?_⟩
        match l, hl, hv with
        | [x, y, z], _, hv =>
          have e1 := hv 1 (by simp) (by simp)
          have e2 := hv 2 (by simp) (by simp)
          simp only [List.getElem_cons_zero, List.getElem_cons_succ] at e1 e2
          show ValOf (if x = truthV true then y else z) _
          split
          · exact e1
          · exact e2
      · cases h
    | [], _, _, _, h => cases h
    | [_], _, _, _, h => cases h
    | [_, _], _, _, _, h => cases h
    | _ :: _ :: _ :: _ :: _, _, _, _, h => cases h
  · rw [if_neg h6] at h; cases h
mutual
/-- what a tree of a kind comes to is of that kind, or null. -/
theorem eval_of {cs : List Col} {row : List Val} (hc : ColsOk cs) (hr : FitsOk cs row) : ∀ (x : Ex) (k : Int), ExOk x → kindP cs x = .ok k → K3 k ∧ ValOf (evalP cs row x) k
  | .lit v, k, ho, h => by
    unfold ExOk at ho
    unfold kindP at h
    unfold evalP
    cases h
    exact ⟨ho.2.2, ho.1, ho.2.1, .inr rfl⟩
  | .name s p, k, ho, h => by
    unfold kindP at h
    unfold evalP
    cases hi : colAt cs s with
    | none => rw [hi] at h; cases h
    | some i =>
      rw [hi] at h
      cases h
      obtain ⟨h1, -⟩ := colAt_some hi
      refine ⟨kind_name hc hi, ?_⟩
      have h2 : i < row.length := by rw [hr.1]; exact h1
      simp only
      have e1 : cs.getD i ⟨[], 0⟩ = cs[i] := by rw [List.getD_eq_getElem?_getD, List.getElem?_eq_getElem h1]; rfl
      have e2 : row.getD i nothing = row[i] := by rw [List.getD_eq_getElem?_getD, List.getElem?_eq_getElem h2]; rfl
      rw [e1, e2]
      exact hr.2 i h2 h1
  | .un neg p x, k, ho, h => by
    unfold ExOk at ho
    unfold kindP at h
    unfold evalP
    cases hx : kindP cs x with
    | error e => rw [hx] at h; cases h
    | ok a =>
      rw [hx] at h
      have ih := eval_of hc hr x a ho hx
      change (if a = (if neg = true then 1 else 2) then Except.ok (if neg = true then (1 : Int) else 2) else Except.error (3, p)) = Except.ok k at h
      by_cases ha : a = (if neg = true then 1 else 2)
      · rw [if_pos ha] at h
        obtain rfl := Except.ok.inj h
        refine ⟨by split <;> simp [K3], ?_⟩
        split
        · exact ⟨ih.2.1, ih.2.2.1, .inl (by assumption)⟩
        · split
          · exact intV_of (wrap64_ok _)
          · exact truthV_of _
      · rw [if_neg ha] at h; cases h
  | .bin o p x y, k, ho, h => by
    unfold ExOk at ho
    unfold kindP at h
    unfold evalP
    cases hx : kindP cs x with
    | error e => rw [hx] at h; cases h
    | ok a =>
      rw [hx] at h
      simp only at h
      cases hy : kindP cs y with
      | error e => rw [hy] at h; cases h
      | ok b =>
        rw [hy] at h
        simp only at h
        have i1 := eval_of hc hr x a ho.2.1 hx
        have i2 := eval_of hc hr y b ho.2.2 hy
        cases hk : binK o a b with
        | none => rw [hk] at h; cases h
        | some k' =>
          rw [hk] at h
          cases h
          exact bin_of ho.1 i1.2 i2.2 hk i1.1
  | .call f p l, k, ho, h => by
    unfold ExOk at ho
    unfold kindP at h
    unfold evalP
    cases hf : argsF f with
    | none => rw [hf] at h; cases h
    | some ar =>
      rw [hf] at h
      simp only at h
      cases hl : kindsP cs l with
      | error e => rw [hl] at h; cases h
      | ok ks =>
        rw [hl] at h
        simp only at h
        have ih := evals_of hc hr l ks ho hl
        cases hk : callK f ks with
        | none => rw [hk] at h; cases h
        | some k' =>
          rw [hk] at h
          cases h
          exact call_of ih.1 ih.2.2 ih.2.1 hk
theorem evals_of {cs : List Col} {row : List Val} (hc : ColsOk cs) (hr : FitsOk cs row) : ∀ (l : List Ex) (ks : List Int), ExsOk l → kindsP cs l = .ok ks →
    (evalsP cs row l).length = ks.length ∧ (∀ k ∈ ks, K3 k) ∧ ∀ i (h : i < (evalsP cs row l).length) (h' : i < ks.length), ValOf (evalsP cs row l)[i] ks[i]
  | [], ks, _, h => by
    unfold kindsP at h
    cases h
    unfold evalsP
    exact ⟨rfl, by simp, fun i h => absurd h (by simp)⟩
  | x :: l, ks, ho, h => by
    unfold ExsOk at ho
    unfold kindsP at h
    unfold evalsP
    cases hx : kindP cs x with
    | error e => rw [hx] at h; cases h
    | ok a =>
      rw [hx] at h
      simp only at h
      cases hl : kindsP cs l with
      | error e => rw [hl] at h; cases h
      | ok ks' =>
        rw [hl] at h
        cases h
        have i1 := eval_of hc hr x a ho.1 hx
        have i2 := evals_of hc hr l ks' ho.2 hl
        refine ⟨by simp [i2.1], ?_, ?_⟩
        · intro k hk
          rcases List.mem_cons.1 hk with rfl | hk
          · exact i1.1
          · exact i2.2.1 k hk
        · intro i h1 h2
          match i with
          | 0 => exact i1.2
          | i + 1 => exact i2.2.2 i (by simpa using h1) (by simpa using h2)
end
end Go.Proofs.YtgajofkeidjbgaaGreatDoor
