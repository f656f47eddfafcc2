/-
  PROVED HERE: in plain Lean: the order of values, rows is total; there is one list of the same rows in their order. No program of its own.
-/
import Derived.Test.YtcmpjdnbjhkhdaaDoorOrdPlain
namespace Go.Proofs.YtcmpjdnbjhkhdaaDoor
set_option linter.unusedSimpArgs false
set_option linter.unusedVariables false
open Go Go.RowKit

/-- a comparison that is an order, total. -/
structure TotalC {α : Type} (c : α → α → Int) : Prop where
  eq : ∀ x y, c x y = 0 ↔ x = y
  neg : ∀ x y, c y x = -(c x y)
  trans : ∀ x y z, c x y < 0 → c y z < 0 → c x z < 0
theorem cmpI_total : TotalC cmpI := by
  refine ⟨fun x y => ?_, fun x y => ?_, fun x y z h1 h2 => ?_⟩ <;> unfold cmpI at * <;> (repeat' split) <;> (repeat' split at *) <;> omega
def lex2 {α β : Type} (c : α → α → Int) (d : β → β → Int) (x y : α × β) : Int := if c x.1 y.1 = 0 then d x.2 y.2 else c x.1 y.1
theorem lex2_total {α β : Type} {c : α → α → Int} {d : β → β → Int} (hc : TotalC c) (hd : TotalC d) : TotalC (lex2 c d) := by
  refine ⟨fun x y => ?_, fun x y => ?_, fun x y z h1 h2 => ?_⟩
  · unfold lex2
    by_cases h : c x.1 y.1 = 0
    · rw [if_pos h, hd.eq]
      have := (hc.eq _ _).1 h
      exact ⟨fun e => Prod.ext this e, fun e => by rw [e]⟩
    · rw [if_neg h]
      exact ⟨fun e => absurd e h, fun e => absurd ((hc.eq _ _).2 (by rw [e])) h⟩
  · unfold lex2
    have e := hc.neg x.1 y.1
    by_cases h : c x.1 y.1 = 0
    · rw [if_pos h, if_pos (by omega)]; exact hd.neg _ _
    · rw [if_neg h, if_neg (by omega)]; exact e
  · unfold lex2 at *
    by_cases ha : c x.1 y.1 = 0
    · rw [if_pos ha] at h1
      have ea := (hc.eq _ _).1 ha
      rw [ea]
      by_cases hb : c y.1 z.1 = 0
      · rw [if_pos hb] at h2 ⊢
        exact hd.trans _ _ _ h1 h2
      · rw [if_neg hb] at h2 ⊢
        exact h2
    · rw [if_neg ha] at h1
      by_cases hb : c y.1 z.1 = 0
      · have eb := (hc.eq _ _).1 hb
        rw [← eb, if_neg ha]
        exact h1
      · rw [if_neg hb] at h2
        have ht := hc.trans _ _ _ h1 h2
        rw [if_neg (by omega)]
        exact ht
def lexL {α : Type} (c : α → α → Int) : List α → List α → Int
  | [], [] => 0
  | [], _ :: _ => -1
  | _ :: _, [] => 1
  | x :: a, y :: b => if c x y = 0 then lexL c a b else c x y
theorem lexL_total {α : Type} {c : α → α → Int} (hc : TotalC c) : TotalC (lexL c) := by
  refine ⟨?_, ?_, ?_⟩
  · intro x
    induction x with
    | nil => intro y; cases y <;> simp [lexL]
    | cons x a ih =>
      intro y
      cases y with
      | nil => simp [lexL]
      | cons y b =>
        unfold lexL
        by_cases h : c x y = 0
        · rw [if_pos h, ih, (hc.eq _ _).1 h]; simp
        · rw [if_neg h]
          exact ⟨fun e => absurd e h, fun e => absurd ((hc.eq _ _).2 (List.cons.inj e).1) h⟩
  · intro x
    induction x with
    | nil => intro y; cases y <;> simp [lexL]
    | cons x a ih =>
      intro y
      cases y with
      | nil => simp [lexL]
      | cons y b =>
        unfold lexL
        have e := hc.neg x y
        by_cases h : c x y = 0
        · rw [if_pos h, if_pos (by omega)]; exact ih b
        · rw [if_neg h, if_neg (by omega)]; exact e
  · intro x
    induction x with
    | nil =>
      intro y z h1 h2
      cases z with
      | nil => cases y <;> simp [lexL] at h1 h2
      | cons z d => simp [lexL]
    | cons x a ih =>
      intro y z h1 h2
      cases y with
      | nil => simp [lexL] at h1
      | cons y b =>
        cases z with
        | nil => simp [lexL] at h2
        | cons z d =>
          unfold lexL at h1 h2 ⊢
          by_cases ha : c x y = 0
          · rw [if_pos ha] at h1
            rw [(hc.eq _ _).1 ha]
            by_cases hb : c y z = 0
            · rw [if_pos hb] at h2 ⊢
              exact ih _ _ h1 h2
            · rw [if_neg hb] at h2 ⊢
              exact h2
          · rw [if_neg ha] at h1
            by_cases hb : c y z = 0
            · rw [← (hc.eq _ _).1 hb, if_neg ha]
              exact h1
            · rw [if_neg hb] at h2
              have ht := hc.trans _ _ _ h1 h2
              rw [if_neg (by omega)]
              exact ht
theorem TotalC.comap {α β : Type} {c : α → α → Int} (hc : TotalC c) (f : β → α) (hf : ∀ x y, f x = f y → x = y) : TotalC fun x y => c (f x) (f y) :=
  ⟨fun x y => by rw [hc.eq]; exact ⟨hf x y, fun e => by rw [e]⟩, fun x y => hc.neg _ _, fun x y z => hc.trans _ _ _⟩
theorem TotalC.congr {α : Type} {c d : α → α → Int} (hc : TotalC c) (h : ∀ x y, d x y = c x y) : TotalC d := by
  have : d = c := funext fun x => funext fun y => h x y
  rw [this]; exact hc
def cmpB (a b : UInt8) : Int := cmpI a.toNat b.toNat
theorem cmpB_total : TotalC cmpB := cmpI_total.comap (fun x : UInt8 => (x.toNat : Int)) fun x y h => UInt8.toNat_inj.1 (by omega)
theorem bytes_lex : ∀ a b : List UInt8, Lib.compareBytes a b = lexL cmpB a b
  | [], [] => rfl
  | [], _ :: _ => rfl
  | _ :: _, [] => rfl
  | x :: a, y :: b => by
    have ih := bytes_lex a b
    unfold Lib.compareBytes lexL cmpB cmpI
    rw [ih]
    simp only [UInt8.lt_iff_toNat_lt]
    by_cases h : x.toNat < y.toNat
    · rw [if_pos h, if_neg (by rw [if_pos (by omega)]; omega), if_pos (by omega)]
    · by_cases h' : y.toNat < x.toNat
      · rw [if_neg h, if_pos h', if_neg (by rw [if_neg (by omega), if_pos (by omega)]; omega), if_neg (by omega), if_pos (by omega)]
      · rw [if_neg h, if_neg h', if_pos (by rw [if_neg (by omega), if_neg (by omega)])]
        rfl
theorem compareV_total : TotalC compareV := by
  refine ((lex2_total cmpI_total (lex2_total cmpI_total (lexL_total cmpB_total))).comap (fun x : Val => (x.k, x.n, x.t.data.toList)) fun x y h => ?_).congr fun x y => ?_
  · simp only [Prod.mk.injEq] at h
    obtain ⟨k1, n1, t1⟩ := x
    obtain ⟨k2, n2, t2⟩ := y
    simp only at h
    obtain ⟨rfl, rfl, h3⟩ := h
    have : t1 = t2 := by cases t1; cases t2; simp only at h3; congr 1; exact Array.toList_inj.1 h3
    rw [this]
  · unfold compareV
    rw [orL3, bytes_lex]
    rfl
theorem compareL_lex : ∀ a b : List Val, compareL a b = lexL compareV a b
  | [], [] => rfl
  | [], _ :: _ => rfl
  | _ :: _, [] => rfl
  | x :: a, y :: b => by unfold compareL lexL; rw [compareL_lex a b]
theorem compareR_total : TotalC compareR := by
  refine ((lex2_total cmpI_total (lexL_total compareV_total)).comap (fun x : Row => (x.time, x.vals)) fun x y h => ?_).congr fun x y => ?_
  · simp only [Prod.mk.injEq] at h
    obtain ⟨t1, l1⟩ := x
    obtain ⟨t2, l2⟩ := y
    simp only at h
    rw [h.1, h.2]
  · unfold compareR
    rw [orL2, compareL_lex]
    rfl
theorem beforeR_cmp (x y : Row) : beforeR x y = decide (compareR x y < 0) := by
  have h := compareR_eq x y
  have e := compareR_eq y x
  have n := compareR_total.neg x y
  rw [h, e] at n
  rw [h]
  unfold signI at *
  cases hb : beforeR x y <;> cases hc : beforeR y x <;> simp [hb, hc] at n ⊢
/-- rows in their order. -/
def SortedR (l : List Row) : Prop := l.Pairwise fun a b => 0 ≤ compareR b a
theorem sortedR_unique : ∀ {a b : List Row}, SortedR a → SortedR b → a.Perm b → a = b
  | [], b, _, _, hp => (List.nil_perm.1 hp).symm
  | x :: a, [], _, _, hp => absurd (List.perm_nil.1 hp) (by simp)
  | x :: a, y :: b, ha, hb, hp => by
    have pa := List.pairwise_cons.1 ha
    have pb := List.pairwise_cons.1 hb
    have hxy : x = y := by
      have h1 : 0 ≤ compareR y x := by
        rcases List.mem_cons.1 (hp.mem_iff.2 List.mem_cons_self : y ∈ x :: a) with rfl | hm
        · have := (compareR_total.eq y y).2 rfl; omega
        · exact pa.1 y hm
      have h2 : 0 ≤ compareR x y := by
        rcases List.mem_cons.1 (hp.mem_iff.1 List.mem_cons_self : x ∈ y :: b) with rfl | hm
        · have := (compareR_total.eq x x).2 rfl; omega
        · exact pb.1 x hm
      have := compareR_total.neg x y
      exact (compareR_total.eq x y).1 (by omega)
    subst hxy
    rw [sortedR_unique pa.2 pb.2 (List.perm_cons x |>.1 hp)]
end Go.Proofs.YtcmpjdnbjhkhdaaDoor
