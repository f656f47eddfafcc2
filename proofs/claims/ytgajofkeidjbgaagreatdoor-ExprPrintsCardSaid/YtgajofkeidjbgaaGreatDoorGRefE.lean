/-
  PROVED HERE: the document's trees and its reading of tokens in memory.
  PROVED HERE: the document's reading of tokens: fail, sign.
-/
import Derived.Test.YtgajofkeidjbgaaGreatDoorGLevelOf
import Derived.Test.YtgajofkeidjbgaaGreatDoorExprDoc
import Derived.Deep.RegionHeld
namespace Go.Proofs.YtgajofkeidjbgaaGreatDoor
set_option linter.unusedSimpArgs false
set_option linter.unusedVariables false
open Go.RowKit

abbrev valueN : List UInt8 := [118, 97, 108, 117, 101]
abbrev nameN : List UInt8 := [110, 97, 109, 101]
/-- a token as the document has it: the end's sort is 'e'. -/
def Tok.d (t : Tok) : Tok := ⟨if t.k = 0 then 101 else t.k, t.t, t.p⟩
/-- where the tokens lie: block, offset, capacity. -/
structure Row3 where
  g : Nat
  o : Nat
  c : Nat
/-- the document's reading at block 'R': its tokens (they lie below it), its place, its depth, what is wrong, and where. -/
def RAt (w : World) (R : Nat) (K : Row3) (L : List Tok) (i d : Nat) (e : Int) (bad : Nat) : Prop :=
  w.heap[R]? = some (.cells #[.slice (some ⟨K.g, K.o, none⟩) L.length K.c, .int .i64 (i : Int), .int .i64 (d : Int), .int .i64 e, .int .i64 (bad : Int)] 68 (0, 0)) ∧ K.g < R ∧ ∀ j (h : j < L.length), TokAt w K.g (K.o + j * 3) L[j].d
theorem RAt.kept {S : Nat → Prop} {w w' : World} {R : Nat} {K : Row3} {L : List Tok} {i d bad : Nat} {e : Int} (h : RAt w R K L i d e bad) (k : Keeps S w w') (hR : S R) (hs : S K.g) : RAt w' R K L i d e bad :=
  ⟨k.obj hR h.1, h.2.1, fun j hj => (h.2.2 j hj).kept hs k⟩
theorem RAt.later {w w' : World} {R : Nat} {K : Row3} {L : List Tok} {i d bad : Nat} {e : Int} (h : RAt w R K L i d e bad) (k : Later w w') : RAt w' R K L i d e bad := h.kept (k.keeps fun _ => True) trivial trivial
/-- a field of the reading is written. -/
theorem RAt.set {w : World} {R : Nat} {K : Row3} {L : List Tok} {i d bad : Nat} {e : Int} (h : RAt w R K L i d e bad) :
    (∀ i' : Nat, RAt (w.setCell ⟨R, 1, none⟩ (.int .i64 (i' : Int))) R K L i' d e bad) ∧ (∀ d' : Nat, RAt (w.setCell ⟨R, 2, none⟩ (.int .i64 (d' : Int))) R K L i d' e bad) ∧ (∀ e' : Int, RAt (w.setCell ⟨R, 3, none⟩ (.int .i64 e')) R K L i d e' bad) ∧
    (∀ b' : Nat, RAt (w.setCell ⟨R, 4, none⟩ (.int .i64 (b' : Int))) R K L i d e b') ∧ ∀ (o : Nat) (u : Value), Keeps (fun b => b ≠ R) w (w.setCell ⟨R, o, none⟩ u) := by
  have hk : ∀ (o : Nat) (u : Value), Keeps (fun b => b ≠ R) w (w.setCell ⟨R, o, none⟩ u) := fun o u => (Keeps.refl _ w).setCell (p := ⟨R, o, none⟩) (.inl fun h => h rfl) _
  obtain ⟨h1, h2, h3⟩ := h
  have ht : ∀ (o : Nat) (u : Value), ∀ j (h : j < L.length), TokAt (w.setCell ⟨R, o, none⟩ u) K.g (K.o + j * 3) L[j].d := fun o u j hj => (h3 j hj).kept (S := fun b => b ≠ R) (Nat.ne_of_lt h2) (hk o u)
  exact ⟨fun i' => ⟨obj_setCell (i := 1) h1 _, h2, ht _ _⟩, fun d' => ⟨obj_setCell (i := 2) h1 _, h2, ht _ _⟩, fun e' => ⟨obj_setCell (i := 3) h1 _, h2, ht _ _⟩, fun b' => ⟨obj_setCell (i := 4) h1 _, h2, ht _ _⟩, hk⟩
/-- what the reading's cells hold. -/
theorem RAt.cells {w : World} {R : Nat} {K : Row3} {L : List Tok} {i d bad : Nat} {e : Int} (h : RAt w R K L i d e bad) :
    w.cell? ⟨R, 0, none⟩ = some (.slice (some ⟨K.g, K.o, none⟩) L.length K.c) ∧ w.cell? ⟨R, 1, none⟩ = some (.int .i64 (i : Int)) ∧ w.cell? ⟨R, 2, none⟩ = some (.int .i64 (d : Int)) ∧ w.cell? ⟨R, 3, none⟩ = some (.int .i64 e) ∧ w.cell? ⟨R, 4, none⟩ = some (.int .i64 (bad : Int)) ∧ (∀ o, w.frozen? ⟨R, o, none⟩ = false) ∧ R < w.heap.size :=
  ⟨cell_obj (i := 0) h.1 rfl, cell_obj (i := 1) h.1 rfl, cell_obj (i := 2) h.1 rfl, cell_obj (i := 3) h.1 rfl, cell_obj (i := 4) h.1 rfl, fun o => free_obj h.1, obj_lt h.1⟩
abbrev KidsIn (S : Nat → Prop) (w : World) (a : Value) (us : List Value) : Prop := SliceOf S (fun w b o u => w.cell? ⟨b, o, none⟩ = some u) 1 w a us
def unN (neg : Bool) : List UInt8 := if neg = true then minusN else notW
mutual
/-- the tree in memory, in blocks of 'S', as the document has it. -/
def EIn (S : Nat → Prop) (w : World) : Value → Ex → Prop
  | v, .lit x => ∃ (B : Nat) (p a nm : Value), S B ∧ v = .pointer (some ⟨B, 0, none⟩) ∧ w.heap[B]? = some (.cells #[.string (strB valueN), p, a, .int .i64 x.k, .int .i64 x.n, .string x.t, nm] 77 (0, 0))
  | v, .name s p => ∃ (B : Nat) (a v1 v2 v3 : Value), S B ∧ v = .pointer (some ⟨B, 0, none⟩) ∧ w.heap[B]? = some (.cells #[.string (strB nameN), .int .i64 (p : Int), a, v1, v2, v3, .string (strB s)] 77 (0, 0))
  | v, .un neg p x => ∃ (B : Nat) (a u v1 v2 v3 nm : Value), S B ∧ v = .pointer (some ⟨B, 0, none⟩) ∧ w.heap[B]? = some (.cells #[.string (strB (unN neg)), .int .i64 (p : Int), a, v1, v2, v3, nm] 77 (0, 0)) ∧
      KidsIn S w a [u] ∧ EIn S w u x
  | v, .bin o p x y => ∃ (B : Nat) (a u1 u2 v1 v2 v3 nm : Value), S B ∧ v = .pointer (some ⟨B, 0, none⟩) ∧ w.heap[B]? = some (.cells #[.string (strB o), .int .i64 (p : Int), a, v1, v2, v3, nm] 77 (0, 0)) ∧
      KidsIn S w a [u1, u2] ∧ EIn S w u1 x ∧ EIn S w u2 y
  | v, .call f p l => ∃ (B : Nat) (a : Value) (us : List Value) (v1 v2 v3 : Value), S B ∧ v = .pointer (some ⟨B, 0, none⟩) ∧ w.heap[B]? = some (.cells #[.string (strB callN), .int .i64 (p : Int), a, v1, v2, v3, .string (strB f)] 77 (0, 0)) ∧
      KidsIn S w a us ∧ EsIn S w us l
def EsIn (S : Nat → Prop) (w : World) : List Value → List Ex → Prop
  | [], [] => True
  | v :: vs, x :: l => EIn S w v x ∧ EsIn S w vs l
  | _, _ => False
end
theorem kids_kept {S S' : Nat → Prop} {w w' : World} {a : Value} {us : List Value} (h : KidsIn S w a us) (k : Keeps S' w w') (hs : ∀ b, S b → S' b) : KidsIn S w' a us := h.map fun _ _ _ hb hx => ⟨hb, k.cell (hs _ hb) hx⟩
mutual
theorem EIn.kept {S S' : Nat → Prop} {w w' : World} (k : Keeps S' w w') (hs : ∀ b, S b → S' b) : ∀ (v : Value) (x : Ex), EIn S w v x → EIn S w' v x
  | v, .lit x, h => by
    unfold EIn at h ⊢
    obtain ⟨B, p, a, nm, h1, h2, h3⟩ := h
    exact ⟨B, p, a, nm, h1, h2, k.obj (hs _ h1) h3⟩
  | v, .name s p, h => by
    unfold EIn at h ⊢
    obtain ⟨B, a, v1, v2, v3, h1, h2, h3⟩ := h
    exact ⟨B, a, v1, v2, v3, h1, h2, k.obj (hs _ h1) h3⟩
  | v, .un neg p x, h => by
    unfold EIn at h ⊢
    obtain ⟨B, a, u, v1, v2, v3, nm, h1, h2, h3, h4, h5⟩ := h
    exact ⟨B, a, u, v1, v2, v3, nm, h1, h2, k.obj (hs _ h1) h3, kids_kept h4 k hs, EIn.kept k hs u x h5⟩
  | v, .bin o p x y, h => by
    unfold EIn at h ⊢
    obtain ⟨B, a, u1, u2, v1, v2, v3, nm, h1, h2, h3, h4, h5, h6⟩ := h
    exact ⟨B, a, u1, u2, v1, v2, v3, nm, h1, h2, k.obj (hs _ h1) h3, kids_kept h4 k hs, EIn.kept k hs u1 x h5, EIn.kept k hs u2 y h6⟩
  | v, .call f p l, h => by
    unfold EIn at h ⊢
    obtain ⟨B, a, us, v1, v2, v3, h1, h2, h3, h4, h5⟩ := h
    exact ⟨B, a, us, v1, v2, v3, h1, h2, k.obj (hs _ h1) h3, kids_kept h4 k hs, EsIn.kept k hs us l h5⟩
theorem EsIn.kept {S S' : Nat → Prop} {w w' : World} (k : Keeps S' w w') (hs : ∀ b, S b → S' b) : ∀ (vs : List Value) (l : List Ex), EsIn S w vs l → EsIn S w' vs l
  | [], [], h => by unfold EsIn; trivial
  | v :: vs, x :: l, h => by
    unfold EsIn at h ⊢
    exact ⟨EIn.kept k hs v x h.1, EsIn.kept k hs vs l h.2⟩
  | [], _ :: _, h => by unfold EsIn at h; exact h.elim
  | _ :: _, [], h => by unfold EsIn at h; exact h.elim
end
/-- the word at a tree's head. -/
def whatE : Ex → List UInt8
  | .lit _ => valueN
  | .name _ _ => nameN
  | .un neg _ _ => unN neg
  | .bin o _ _ _ => o
  | .call _ _ _ => callN
theorem EIn.what {S : Nat → Prop} {w : World} {B : Nat} {x : Ex} (h : EIn S w (.pointer (some ⟨B, 0, none⟩)) x) : w.cell? ⟨B, 0, none⟩ = some (.string (strB (whatE x))) := by
  cases x <;> (unfold EIn at h)
  · obtain ⟨B', p, a, nm, h1, h2, h3⟩ := h
    simp only [Value.pointer.injEq, Option.some.injEq, Addr.mk.injEq, and_true] at h2
    subst h2; exact cell_obj (i := 0) h3 rfl
  · obtain ⟨B', a, v1, v2, v3, h1, h2, h3⟩ := h
    simp only [Value.pointer.injEq, Option.some.injEq, Addr.mk.injEq, and_true] at h2
    subst h2; exact cell_obj (i := 0) h3 rfl
  · obtain ⟨B', a, u, v1, v2, v3, nm, h1, h2, h3, h4⟩ := h
    simp only [Value.pointer.injEq, Option.some.injEq, Addr.mk.injEq, and_true] at h2
    subst h2; exact cell_obj (i := 0) h3 rfl
  · obtain ⟨B', a, u1, u2, v1, v2, v3, nm, h1, h2, h3, h4⟩ := h
    simp only [Value.pointer.injEq, Option.some.injEq, Addr.mk.injEq, and_true] at h2
    subst h2; exact cell_obj (i := 0) h3 rfl
  · obtain ⟨B', a, us, v1, v2, v3, h1, h2, h3, h4⟩ := h
    simp only [Value.pointer.injEq, Option.some.injEq, Addr.mk.injEq, and_true] at h2
    subst h2; exact cell_obj (i := 0) h3 rfl
mutual
theorem EIn.mono {S S' : Nat → Prop} {w : World} (hs : ∀ b, b < w.heap.size → S b → S' b) : ∀ (v : Value) (x : Ex), EIn S w v x → EIn S' w v x
  | v, .lit x, h => by
    unfold EIn at h ⊢
    obtain ⟨B, p, a, nm, h1, h2, h3⟩ := h
    exact ⟨B, p, a, nm, hs _ (obj_lt h3) h1, h2, h3⟩
  | v, .name s p, h => by
    unfold EIn at h ⊢
    obtain ⟨B, a, v1, v2, v3, h1, h2, h3⟩ := h
    exact ⟨B, a, v1, v2, v3, hs _ (obj_lt h3) h1, h2, h3⟩
  | v, .un neg p x, h => by
    unfold EIn at h ⊢
    obtain ⟨B, a, u, v1, v2, v3, nm, h1, h2, h3, h4, h5⟩ := h
    exact ⟨B, a, u, v1, v2, v3, nm, hs _ (obj_lt h3) h1, h2, h3, h4.map fun _ _ _ hb hx => ⟨hs _ (cell_lt hx) hb, hx⟩, EIn.mono hs u x h5⟩
  | v, .bin o p x y, h => by
    unfold EIn at h ⊢
    obtain ⟨B, a, u1, u2, v1, v2, v3, nm, h1, h2, h3, h4, h5, h6⟩ := h
    exact ⟨B, a, u1, u2, v1, v2, v3, nm, hs _ (obj_lt h3) h1, h2, h3, h4.map fun _ _ _ hb hx => ⟨hs _ (cell_lt hx) hb, hx⟩, EIn.mono hs u1 x h5, EIn.mono hs u2 y h6⟩
  | v, .call f p l, h => by
    unfold EIn at h ⊢
    obtain ⟨B, a, us, v1, v2, v3, h1, h2, h3, h4, h5⟩ := h
    exact ⟨B, a, us, v1, v2, v3, hs _ (obj_lt h3) h1, h2, h3, h4.map fun _ _ _ hb hx => ⟨hs _ (cell_lt hx) hb, hx⟩, EsIn.mono hs us l h5⟩
theorem EsIn.mono {S S' : Nat → Prop} {w : World} (hs : ∀ b, b < w.heap.size → S b → S' b) : ∀ (vs : List Value) (l : List Ex), EsIn S w vs l → EsIn S' w vs l
  | [], [], h => by unfold EsIn; trivial
  | v :: vs, x :: l, h => by
    unfold EsIn at h ⊢
    exact ⟨EIn.mono hs v x h.1, EsIn.mono hs vs l h.2⟩
  | [], _ :: _, h => by unfold EsIn at h; exact h.elim
  | _ :: _, [], h => by unfold EsIn at h; exact h.elim
end
/-- what a function of the document's parser answers: a tree, fewer tokens, or what is wrong. -/
def ROut (w : World) (R : Nat) (K : Row3) (L : List Tok) (i d : Nat) (T : Res → Prop) (e : Ending) (w' : World) : Prop :=
  Keeps (fun b => b ≠ R) w w' ∧ ∃ (r : Res) (B : Nat), T r ∧ e = .returned (.pointer (some ⟨B, 0, none⟩)) ∧ match r with
    | .error f => f.1 ≠ 0 ∧ ∃ j, i ≤ j ∧ j < L.length ∧ RAt w' R K L j d f.1 f.2
    | .ok x => EIn (fun b => b ≠ R ∧ w.heap.size ≤ b) w' (.pointer (some ⟨B, 0, none⟩)) x.1 ∧ ∃ j, i < j ∧ L.drop j = x.2 ∧ RAt w' R K L j d 0 0 ∧ EndL x.2
end Go.Proofs.YtgajofkeidjbgaaGreatDoor
namespace Go.Proofs.YtgajofkeidjbgaaGreatDoor
set_option linter.unusedSimpArgs false
set_option linter.unusedVariables false
open Go.RowKit

theorem byte_d (t : Tok) (n : Nat) (hn : n < 256) (h0 : UInt8.ofNat n ≠ 0) (h1 : UInt8.ofNat n ≠ 101) : ((t.d.k.toNat : Int) == (n : Int)) = decide (t.k = UInt8.ofNat n) := by
  rw [byte_eq _ n hn, decide_eq_decide]
  show (if t.k = 0 then 101 else t.k) = _ ↔ _
  by_cases hk : t.k = 0
  · rw [if_pos hk, hk]
    exact ⟨fun h => absurd h.symm h1, fun h => absurd h.symm h0⟩
  · rw [if_neg hk]
/-- a variable of a token, written. -/
theorem tokvar_set {w w1 w2 : World} {T : Nat} {t : Tok} {a b c : Value} (hL : Later w w1) (h : w1.heap[T]? = some (.cells #[a, b, c] 71 (0, 0))) (hT : w.heap.size ≤ T)
    (h2 : w2 = ((w1.setCell ⟨T, 0, none⟩ (.int .u8 (t.k.toNat : Int))).setCell ⟨T, 1, none⟩ (.string (strB t.t))).setCell ⟨T, 2, none⟩ (.int .i64 (t.p : Int))) :
    Later w w2 ∧ w2.heap[T]? = some (.cells #[.int .u8 (t.k.toNat : Int), .string (strB t.t), .int .i64 (t.p : Int)] 71 (0, 0)) := by
  subst h2
  exact ⟨((hL.new (p := ⟨T, 0, none⟩) hT _).new (p := ⟨T, 1, none⟩) hT _).new (p := ⟨T, 2, none⟩) hT _, obj_setCell (i := 2) (obj_setCell (i := 1) (obj_setCell (i := 0) h _) _) _⟩
/-- 'fail' of the document: the first fault stays. -/
theorem rfail_any (R : Nat) (K : Row3) (L : List Tok) (i d bad : Nat) (e c : Int) (p : Nat) (w : World) (h : RAt w R K L i d e bad) (hc : c ≠ 0) : Calls Tryz.prog 23 #[.pointer (some ⟨R, 0, none⟩), .int .i64 c, .int .i64 (p : Int)] w fun en w' =>
    en = .returned (.tuple #[]) ∧ Keeps (fun b => b ≠ R) w w' ∧ (if e = 0 then RAt w' R K L i d c p else w' = w) := by
  have HR := hid h
  obtain ⟨-, -, -, c3, c4, hz, hlt⟩ := h.cells
  have z3 := hz 3
  clear h hz
  by_cases he : e = 0
  · have HE := hid he
    subst he
    have h1 := HR.out.set.2.2.1 c
    have q4 := (h1.cells).2.2.2.2.1
    have z4 := (h1.cells).2.2.2.2.2.1 4
    have q4l := (h1.cells).2.2.2.2.2.2
    have H1 := hid h1
    clear h1
    go_enter Tryz.func23, Tryz.ntmps23
    go_wp2_with fail
    refine bodyPost_end (results_none rfl _ _ _) rfl ⟨rfl, ((HR.out.set).2.2.2.2 3 _).trans ((H1.out.set).2.2.2.2 4 _), ?_⟩
    exact H1.out.set.2.2.2.1 p
  · have he' : (e == 0) = false := by simpa using he
    have HE := hid he
    clear he
    go_enter Tryz.func23, Tryz.ntmps23
    go_wp2_with fail
    refine bodyPost_end (results_none rfl _ _ _) rfl ⟨rfl, Keeps.refl _ _, rfl⟩
set_option maxRecDepth 100000 in
set_option maxHeartbeats 2000000 in
theorem sign_any (R : Nat) (K : Row3) (L : List Tok) (i d bad : Nat) (e : Int) (x : List UInt8) (w : World) (h : RAt w R K L i d e bad) (hi : i < L.length) : Calls Tryz.prog 44 #[.pointer (some ⟨R, 0, none⟩), .string (strB x)] w fun en w' =>
    en = .returned (.bool (decide (e = 0) && isW L[i] x)) ∧ Later w w' := by
  have HR := hid h
  obtain ⟨t0, t1, t2⟩ := h.2.2 i hi
  obtain ⟨c0, c1, -, c3, -, hz, hlt⟩ := h.cells
  obtain ⟨g, o, c⟩ := K
  simp only at c0 t0 t1 t2
  obtain ⟨t, ht⟩ : ∃ t, t = L[i] := ⟨_, rfl⟩
  rw [← ht] at t0 t1 t2
  have HT := hid ht
  have hii : (i : Int) < (L.length : Int) := by omega
  clear h hz ht
  go_enter Tryz.func44, Tryz.ntmps44
  go_upto_region 1 with (fail)
  refine wp_region_held_drew (S := fun w => w.cell? ⟨R, 0, none⟩ = some (.slice (some ⟨g, o, none⟩) L.length c) ∧ w.cell? ⟨R, 1, none⟩ = some (.int .i64 (i : Int)) ∧ w.cell? ⟨R, 3, none⟩ = some (.int .i64 e) ∧ TokAt w g (o + i * 3) t.d)
    (by kernel_rfl) ⟨(Later.drew w).cell c0, (Later.drew w).cell c1, (Later.drew w).cell c3, (Later.drew w).cell t0, (Later.drew w).cell t1, (Later.drew w).cell t2⟩ (fun hS => ?_)
  refine wpAnyH_take (i := 0) (v := .pointer (some ⟨R, 0, none⟩)) rfl (by kernel_rfl) (by kernel_rfl) (by kernel_rfl) (fun _ _ _ h => h) (Or.inl ⟨by rfl, ?_⟩) hS ?_
  · intro w hS
    clear hS
    go_simp
  try simp only [Act.put, List.setIfInBounds_toArray, List.set]
  refine wpAnyH_take (i := 4) (v := .pointer (some ⟨R, 0, none⟩)) rfl (by kernel_rfl) (by kernel_rfl) (by kernel_rfl) (fun _ _ _ h => h) (Or.inl ⟨by rfl, ?_⟩) hS ?_
  · intro w hS
    clear hS
    go_simp
  try simp only [Act.put, List.setIfInBounds_toArray, List.set]
  refine wpAnyH_take (i := 1) (v := .pointer (some ⟨R, 0, none⟩)) rfl (by kernel_rfl) (by kernel_rfl) (by kernel_rfl) (fun _ _ _ h => h) (Or.inl ⟨by rfl, ?_⟩) hS ?_
  · rintro w ⟨h0, -⟩
    try (have := cell_lt h0)
    go_simp
  try simp only [Act.put, List.setIfInBounds_toArray, List.set]
  refine wpAnyH_take (i := 5) (v := .pointer (some ⟨R, 0, none⟩)) rfl (by kernel_rfl) (by kernel_rfl) (by kernel_rfl) (fun _ _ _ h => h) (Or.inl ⟨by rfl, ?_⟩) hS ?_
  · rintro w ⟨h0, -⟩
    try (have := cell_lt h0)
    go_simp
  try simp only [Act.put, List.setIfInBounds_toArray, List.set]
  refine wpAnyH_take (i := 2) (v := .pointer (some ⟨R, 0, none⟩)) rfl (by kernel_rfl) (by kernel_rfl) (by kernel_rfl) (fun _ _ _ h => h) (Or.inl ⟨by rfl, ?_⟩) hS ?_
  · rintro w ⟨h0, -⟩
    try (have := cell_lt h0)
    go_simp
  try simp only [Act.put, List.setIfInBounds_toArray, List.set]
  refine wpAnyH_take (i := 6) (v := .pointer (some ⟨R, 1, none⟩)) rfl (by kernel_rfl) (by kernel_rfl) (by kernel_rfl) (fun _ _ _ h => h) (Or.inl ⟨by rfl, ?_⟩) hS ?_
  · rintro w ⟨h0, -⟩
    try (have := cell_lt h0)
    go_simp
  try simp only [Act.put, List.setIfInBounds_toArray, List.set]
  refine wpAnyH_take (i := 3) (v := .slice (some ⟨g, o, none⟩) L.length c) rfl (by kernel_rfl) (by kernel_rfl) (by kernel_rfl) (fun _ _ _ h => h) (Or.inl ⟨by rfl, ?_⟩) hS ?_
  · rintro w ⟨h0, -⟩
    try (have := cell_lt h0)
    go_simp
  try simp only [Act.put, List.setIfInBounds_toArray, List.set]
  refine wpAnyH_take (i := 7) (v := .int .i64 (i : Int)) rfl (by kernel_rfl) (by kernel_rfl) (by kernel_rfl) (fun _ _ _ h => h) (Or.inl ⟨by rfl, ?_⟩) hS ?_
  · rintro w ⟨-, h0, -⟩
    try (have := cell_lt h0)
    go_simp
  try simp only [Act.put, List.setIfInBounds_toArray, List.set]
  refine wpAnyH_take (i := 8) (v := .pointer (some ⟨g, o + i * 3, none⟩)) rfl (by kernel_rfl) (by kernel_rfl) (by kernel_rfl) (fun _ _ _ h => h) (Or.inl ⟨by rfl, ?_⟩) hS ?_
  · intro w hS
    clear hS
    go_simp
  try simp only [Act.put, List.setIfInBounds_toArray, List.set]
  refine wpAnyH_take (i := 9) (v := .agg #[.int .u8 (t.d.k.toNat : Int), .string (strB t.d.t), .int .i64 (t.d.p : Int)]) rfl (by kernel_rfl) (by kernel_rfl) (by kernel_rfl) (fun _ _ _ h => h) (Or.inl ⟨by rfl, ?_⟩) hS ?_
  · rintro w ⟨-, -, -, h0, h1, h2⟩
    try (have := cell_lt h0)
    go_simp
  try simp only [Act.put, List.setIfInBounds_toArray, List.set]
  refine wpAnyH_ready (rs := [10]) (by kernel_rfl) (by simp) (AllReadyH.cons rfl (fun K hK => ?_) AllReadyH.nil)
  go_simp
  obtain ⟨w1, hw1⟩ : ∃ w1, w1 = (w.alloc (.cells #[.int .u8 0, .string ⟨#[]⟩, .int .i64 0] 71)).drew := ⟨_, rfl⟩
  have hL1 : Later w w1 := by rw [hw1]; exact Later.trans _ _ _ (Later.alloc _ _) (Later.drew _)
  have hN1 : w1.heap[w.heap.size]? = some (.cells #[.int .u8 0, .string ⟨#[]⟩, .int .i64 0] 71 (0, 0)) := by rw [hw1]; exact obj_new _ _
  obtain ⟨T, hT⟩ : ∃ T, T = w.heap.size := ⟨_, rfl⟩
  have hTw : w.heap.size ≤ T := by omega
  rw [← hw1, ← hT]
  rw [← hT] at hN1
  have k0 : w1.cell? ⟨T, 0, none⟩ = some (.int .u8 0) := cell_obj (i := 0) hN1 rfl
  have k1 : w1.cell? ⟨T, 1, none⟩ = some (.string ⟨#[]⟩) := cell_obj (i := 1) hN1 rfl
  have k2 : w1.cell? ⟨T, 2, none⟩ = some (.int .i64 0) := cell_obj (i := 2) hN1 rfl
  have z0 := free_obj (i := 0) hN1
  have z1 := free_obj (i := 1) hN1
  have z2 := free_obj (i := 2) hN1
  have kl := cell_lt k0
  have hS1 : w1.cell? ⟨R, 0, none⟩ = some (.slice (some ⟨g, o, none⟩) L.length c) ∧ w1.cell? ⟨R, 1, none⟩ = some (.int .i64 (i : Int)) ∧ w1.cell? ⟨R, 3, none⟩ = some (.int .i64 e) ∧ TokAt w1 g (o + i * 3) t.d := ⟨hL1.cell c0, hL1.cell c1, hL1.cell c3, hL1.cell t0, hL1.cell t1, hL1.cell t2⟩
  clear hw1 hT hS
  refine hK.out _ _ hS1 (fun hS => ?_)
  clear hK K
  try simp only [Act.put, List.setIfInBounds_toArray, List.set]
  clear hS1
  refine wpAnyH_ready (rs := [11]) (by kernel_rfl) (by simp) (AllReadyH.cons rfl (fun K hK => ?_) AllReadyH.nil)
  go_simp
  obtain ⟨w2, hw2⟩ : ∃ w2, w2 = ((w1.setCell ⟨T, 0, none⟩ (.int .u8 (t.d.k.toNat : Int))).setCell ⟨T, 1, none⟩ (.string (strB t.d.t))).setCell ⟨T, 2, none⟩ (.int .i64 (t.d.p : Int)) := ⟨_, rfl⟩
  obtain ⟨hL2, hT2⟩ := tokvar_set hL1 hN1 hTw hw2
  rw [← hw2]
  have hS2 : w2.cell? ⟨R, 0, none⟩ = some (.slice (some ⟨g, o, none⟩) L.length c) ∧ w2.cell? ⟨R, 1, none⟩ = some (.int .i64 (i : Int)) ∧ w2.cell? ⟨R, 3, none⟩ = some (.int .i64 e) ∧ TokAt w2 g (o + i * 3) t.d := ⟨hL2.cell c0, hL2.cell c1, hL2.cell c3, hL2.cell t0, hL2.cell t1, hL2.cell t2⟩
  clear hw2 k0 k1 k2 z0 z1 z2 kl hL1 hN1 hS hTw
  refine hK.out _ _ hS2 (fun hS => ?_)
  clear hK K
  try simp only [Act.put, List.setIfInBounds_toArray, List.set]
  refine wpAnyH_done (by kernel_rfl) ?_ _
  have e3 := hS.2.2.1
  have m0 : w2.cell? ⟨T, 0, none⟩ = some (.int .u8 (t.d.k.toNat : Int)) := cell_obj (i := 0) hT2 rfl
  have m1 : w2.cell? ⟨T, 1, none⟩ = some (.string (strB t.t)) := cell_obj (i := 1) hT2 rfl
  have ml := cell_lt m0
  have rl := cell_lt e3
  have HL2 := hid hL2
  obtain ⟨b0, h0⟩ : ∃ b, (e == 0) = b := ⟨_, rfl⟩
  obtain ⟨b1, h1⟩ : ∃ b, decide (t.t = x) = b := ⟨_, rfl⟩
  obtain ⟨b2, h2⟩ : ∃ b, decide (t.k = 111) = b := ⟨_, rfl⟩
  obtain ⟨b3, h3⟩ : ∃ b, decide (t.k = 110) = b := ⟨_, rfl⟩
  have e1 : ((strB t.t).toList == (strB x).toList) = b1 := (strs_eq _ _).trans h1
  have e2 : ((t.d.k.toNat : Int) == 111) = b2 := (byte_d t 111 (by omega) (by decide) (by decide)).trans h2
  have e4 : ((t.d.k.toNat : Int) == 110) = b3 := (byte_d t 110 (by omega) (by decide) (by decide)).trans h3
  have HV : Hid ((decide (e = 0) && isW L[i] x) = (b0 && (b1 && (b2 || b3)))) := hid (by
    rw [← HT.out, ← h0, ← h1, ← h2, ← h3]
    unfold isW
    rw [Bool.eq_iff_iff]
    simp)
  clear hL2 hT2 c0 c1 c3 t0 t1 t2 hS hlt h1 h2 h3 hS2
  cases b0 with
  | false =>
    go_wp2_with fail
    exact bodyPost_ret (results_tmp rfl _ _ _) rfl ⟨by rw [HV.out]; rfl, HL2.out⟩
  | true =>
    cases b1 with
    | false =>
      go_wp2_with fail
      exact bodyPost_ret (results_tmp rfl _ _ _) rfl ⟨by rw [HV.out]; rfl, HL2.out⟩
    | true =>
      cases b2 with
      | true =>
        go_wp2_with fail
        exact bodyPost_ret (results_tmp rfl _ _ _) rfl ⟨by rw [HV.out]; rfl, HL2.out⟩
      | false =>
        go_wp2_with fail
        refine bodyPost_ret (results_tmp rfl _ _ _) rfl ⟨?_, HL2.out⟩
        rw [HV.out]
        cases b3 <;> rfl
end Go.Proofs.YtgajofkeidjbgaaGreatDoor
