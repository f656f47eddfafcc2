/-
  PROVED HERE: the document's trees and its reading of tokens in memory.
  PROVED HERE: the document's trees in memory: their heads, their parts.
-/
import Derived.Test.YtgajofkeidjbgaaGreatDoorGParText
import Derived.Test.YtgajofkeidjbgaaGreatDoorGExprDoc
namespace Go.Proofs.YtgajofkeidjbgaaGreatDoor
set_option linter.unusedSimpArgs false
set_option linter.unusedVariables false
open Go.RowKit

abbrev valueN : List UInt8 := [118, 97, 108, 117, 101]
abbrev nameN : List UInt8 := [110, 97, 109, 101]
/-- a token as the document has it: the end's sort is 'e'. -/
def Tok.d (t : Tok) : Tok := ⟨if t.k = 0 then 101 else t.k, t.t, t.p⟩
/-- where the tokens lie: block, offset, capacity. -/
structure Row3 where
  g : Nat
  o : Nat
  c : Nat
/-- the document's reading at block 'R': its tokens (they lie below it), its place, its depth, what is wrong, and where. -/
def RAt (w : World) (R : Nat) (K : Row3) (L : List Tok) (i d : Nat) (e : Int) (bad : Nat) : Prop :=
  w.heap[R]? = some (.cells #[.slice (some ⟨K.g, K.o, none⟩) L.length K.c, .int .i64 (i : Int), .int .i64 (d : Int), .int .i64 e, .int .i64 (bad : Int)] 68 (0, 0)) ∧ K.g < R ∧ ∀ j (h : j < L.length), TokAt w K.g (K.o + j * 3) L[j].d
theorem RAt.kept {S : Nat → Prop} {w w' : World} {R : Nat} {K : Row3} {L : List Tok} {i d bad : Nat} {e : Int} (h : RAt w R K L i d e bad) (k : Keeps S w w') (hR : S R) (hs : S K.g) : RAt w' R K L i d e bad :=
  ⟨k.obj hR h.1, h.2.1, fun j hj => (h.2.2 j hj).kept hs k⟩
theorem RAt.later {w w' : World} {R : Nat} {K : Row3} {L : List Tok} {i d bad : Nat} {e : Int} (h : RAt w R K L i d e bad) (k : Later w w') : RAt w' R K L i d e bad := h.kept (k.keeps fun _ => True) trivial trivial
/-- a field of the reading is written. -/
theorem RAt.set {w : World} {R : Nat} {K : Row3} {L : List Tok} {i d bad : Nat} {e : Int} (h : RAt w R K L i d e bad) :
    (∀ i' : Nat, RAt (w.setCell ⟨R, 1, none⟩ (.int .i64 (i' : Int))) R K L i' d e bad) ∧ (∀ d' : Nat, RAt (w.setCell ⟨R, 2, none⟩ (.int .i64 (d' : Int))) R K L i d' e bad) ∧ (∀ e' : Int, RAt (w.setCell ⟨R, 3, none⟩ (.int .i64 e')) R K L i d e' bad) ∧
    (∀ b' : Nat, RAt (w.setCell ⟨R, 4, none⟩ (.int .i64 (b' : Int))) R K L i d e b') ∧ ∀ (o : Nat) (u : Value), Keeps (fun b => b ≠ R) w (w.setCell ⟨R, o, none⟩ u) := by
  have hk : ∀ (o : Nat) (u : Value), Keeps (fun b => b ≠ R) w (w.setCell ⟨R, o, none⟩ u) := fun o u => (Keeps.refl _ w).setCell (p := ⟨R, o, none⟩) (.inl fun h => h rfl) _
  obtain ⟨h1, h2, h3⟩ := h
  have ht : ∀ (o : Nat) (u : Value), ∀ j (h : j < L.length), TokAt (w.setCell ⟨R, o, none⟩ u) K.g (K.o + j * 3) L[j].d := fun o u j hj => (h3 j hj).kept (S := fun b => b ≠ R) (Nat.ne_of_lt h2) (hk o u)
  exact ⟨fun i' => ⟨obj_setCell (i := 1) h1 _, h2, ht _ _⟩, fun d' => ⟨obj_setCell (i := 2) h1 _, h2, ht _ _⟩, fun e' => ⟨obj_setCell (i := 3) h1 _, h2, ht _ _⟩, fun b' => ⟨obj_setCell (i := 4) h1 _, h2, ht _ _⟩, hk⟩
/-- what the reading's cells hold. -/
theorem RAt.cells {w : World} {R : Nat} {K : Row3} {L : List Tok} {i d bad : Nat} {e : Int} (h : RAt w R K L i d e bad) :
    w.cell? ⟨R, 0, none⟩ = some (.slice (some ⟨K.g, K.o, none⟩) L.length K.c) ∧ w.cell? ⟨R, 1, none⟩ = some (.int .i64 (i : Int)) ∧ w.cell? ⟨R, 2, none⟩ = some (.int .i64 (d : Int)) ∧ w.cell? ⟨R, 3, none⟩ = some (.int .i64 e) ∧ w.cell? ⟨R, 4, none⟩ = some (.int .i64 (bad : Int)) ∧ (∀ o, w.frozen? ⟨R, o, none⟩ = false) ∧ R < w.heap.size :=
  ⟨cell_obj (i := 0) h.1 rfl, cell_obj (i := 1) h.1 rfl, cell_obj (i := 2) h.1 rfl, cell_obj (i := 3) h.1 rfl, cell_obj (i := 4) h.1 rfl, fun o => free_obj h.1, obj_lt h.1⟩
abbrev KidsIn (S : Nat → Prop) (w : World) (a : Value) (us : List Value) : Prop := SliceOf S (fun w b o u => w.cell? ⟨b, o, none⟩ = some u) 1 w a us
def unN (neg : Bool) : List UInt8 := if neg = true then minusN else notW
mutual
/-- the tree in memory, in blocks of 'S', as the document has it. -/
def EIn (S : Nat → Prop) (w : World) : Value → Ex → Prop
  | v, .lit x => ∃ (B : Nat) (p a nm : Value), S B ∧ v = .pointer (some ⟨B, 0, none⟩) ∧ w.heap[B]? = some (.cells #[.string (strB valueN), p, a, .int .i64 x.k, .int .i64 x.n, .string x.t, nm] 77 (0, 0))
  | v, .name s p => ∃ (B : Nat) (a v1 v2 v3 : Value), S B ∧ v = .pointer (some ⟨B, 0, none⟩) ∧ w.heap[B]? = some (.cells #[.string (strB nameN), .int .i64 (p : Int), a, v1, v2, v3, .string (strB s)] 77 (0, 0))
  | v, .un neg p x => ∃ (B : Nat) (a u v1 v2 v3 nm : Value), S B ∧ v = .pointer (some ⟨B, 0, none⟩) ∧ w.heap[B]? = some (.cells #[.string (strB (unN neg)), .int .i64 (p : Int), a, v1, v2, v3, nm] 77 (0, 0)) ∧
      KidsIn S w a [u] ∧ EIn S w u x
  | v, .bin o p x y => ∃ (B : Nat) (a u1 u2 v1 v2 v3 nm : Value), S B ∧ v = .pointer (some ⟨B, 0, none⟩) ∧ w.heap[B]? = some (.cells #[.string (strB o), .int .i64 (p : Int), a, v1, v2, v3, nm] 77 (0, 0)) ∧
      KidsIn S w a [u1, u2] ∧ EIn S w u1 x ∧ EIn S w u2 y
  | v, .call f p l => ∃ (B : Nat) (a : Value) (us : List Value) (v1 v2 v3 : Value), S B ∧ v = .pointer (some ⟨B, 0, none⟩) ∧ w.heap[B]? = some (.cells #[.string (strB callN), .int .i64 (p : Int), a, v1, v2, v3, .string (strB f)] 77 (0, 0)) ∧
      KidsIn S w a us ∧ EsIn S w us l
def EsIn (S : Nat → Prop) (w : World) : List Value → List Ex → Prop
  | [], [] => True
  | v :: vs, x :: l => EIn S w v x ∧ EsIn S w vs l
  | _, _ => False
end
theorem kids_kept {S S' : Nat → Prop} {w w' : World} {a : Value} {us : List Value} (h : KidsIn S w a us) (k : Keeps S' w w') (hs : ∀ b, S b → S' b) : KidsIn S w' a us := h.map fun _ _ _ hb hx => ⟨hb, k.cell (hs _ hb) hx⟩
mutual
theorem EIn.kept {S S' : Nat → Prop} {w w' : World} (k : Keeps S' w w') (hs : ∀ b, S b → S' b) : ∀ (v : Value) (x : Ex), EIn S w v x → EIn S w' v x
  | v, .lit x, h => by
    unfold EIn at h ⊢
    obtain ⟨B, p, a, nm, h1, h2, h3⟩ := h
    exact ⟨B, p, a, nm, h1, h2, k.obj (hs _ h1) h3⟩
  | v, .name s p, h => by
    unfold EIn at h ⊢
    obtain ⟨B, a, v1, v2, v3, h1, h2, h3⟩ := h
    exact ⟨B, a, v1, v2, v3, h1, h2, k.obj (hs _ h1) h3⟩
  | v, .un neg p x, h => by
    unfold EIn at h ⊢
    obtain ⟨B, a, u, v1, v2, v3, nm, h1, h2, h3, h4, h5⟩ := h
    exact ⟨B, a, u, v1, v2, v3, nm, h1, h2, k.obj (hs _ h1) h3, kids_kept h4 k hs, EIn.kept k hs u x h5⟩
  | v, .bin o p x y, h => by
    unfold EIn at h ⊢
    obtain ⟨B, a, u1, u2, v1, v2, v3, nm, h1, h2, h3, h4, h5, h6⟩ := h
    exact ⟨B, a, u1, u2, v1, v2, v3, nm, h1, h2, k.obj (hs _ h1) h3, kids_kept h4 k hs, EIn.kept k hs u1 x h5, EIn.kept k hs u2 y h6⟩
  | v, .call f p l, h => by
    unfold EIn at h ⊢
    obtain ⟨B, a, us, v1, v2, v3, h1, h2, h3, h4, h5⟩ := h
    exact ⟨B, a, us, v1, v2, v3, h1, h2, k.obj (hs _ h1) h3, kids_kept h4 k hs, EsIn.kept k hs us l h5⟩
theorem EsIn.kept {S S' : Nat → Prop} {w w' : World} (k : Keeps S' w w') (hs : ∀ b, S b → S' b) : ∀ (vs : List Value) (l : List Ex), EsIn S w vs l → EsIn S w' vs l
  | [], [], h => by unfold EsIn; trivial
  | v :: vs, x :: l, h => by
    unfold EsIn at h ⊢
    exact ⟨EIn.kept k hs v x h.1, EsIn.kept k hs vs l h.2⟩
  | [], _ :: _, h => by unfold EsIn at h; exact h.elim
  | _ :: _, [], h => by unfold EsIn at h; exact h.elim
end
/-- the word at a tree's head. -/
def whatE : Ex → List UInt8
  | .lit _ => valueN
  | .name _ _ => nameN
  | .un neg _ _ => unN neg
  | .bin o _ _ _ => o
  | .call _ _ _ => callN
theorem EIn.what {S : Nat → Prop} {w : World} {B : Nat} {x : Ex} (h : EIn S w (.pointer (some ⟨B, 0, none⟩)) x) : w.cell? ⟨B, 0, none⟩ = some (.string (strB (whatE x))) := by
  cases x <;> (unfold EIn at h)
  · obtain ⟨B', p, a, nm, h1, h2, h3⟩ := h
    simp only [Value.pointer.injEq, Option.some.injEq, Addr.mk.injEq, and_true] at h2
    subst h2; exact cell_obj (i := 0) h3 rfl
  · obtain ⟨B', a, v1, v2, v3, h1, h2, h3⟩ := h
    simp only [Value.pointer.injEq, Option.some.injEq, Addr.mk.injEq, and_true] at h2
    subst h2; exact cell_obj (i := 0) h3 rfl
  · obtain ⟨B', a, u, v1, v2, v3, nm, h1, h2, h3, h4⟩ := h
    simp only [Value.pointer.injEq, Option.some.injEq, Addr.mk.injEq, and_true] at h2
    subst h2; exact cell_obj (i := 0) h3 rfl
  · obtain ⟨B', a, u1, u2, v1, v2, v3, nm, h1, h2, h3, h4⟩ := h
    simp only [Value.pointer.injEq, Option.some.injEq, Addr.mk.injEq, and_true] at h2
    subst h2; exact cell_obj (i := 0) h3 rfl
  · obtain ⟨B', a, us, v1, v2, v3, h1, h2, h3, h4⟩ := h
    simp only [Value.pointer.injEq, Option.some.injEq, Addr.mk.injEq, and_true] at h2
    subst h2; exact cell_obj (i := 0) h3 rfl
mutual
theorem EIn.mono {S S' : Nat → Prop} {w : World} (hs : ∀ b, b < w.heap.size → S b → S' b) : ∀ (v : Value) (x : Ex), EIn S w v x → EIn S' w v x
  | v, .lit x, h => by
    unfold EIn at h ⊢
    obtain ⟨B, p, a, nm, h1, h2, h3⟩ := h
    exact ⟨B, p, a, nm, hs _ (obj_lt h3) h1, h2, h3⟩
  | v, .name s p, h => by
    unfold EIn at h ⊢
    obtain ⟨B, a, v1, v2, v3, h1, h2, h3⟩ := h
    exact ⟨B, a, v1, v2, v3, hs _ (obj_lt h3) h1, h2, h3⟩
  | v, .un neg p x, h => by
    unfold EIn at h ⊢
    obtain ⟨B, a, u, v1, v2, v3, nm, h1, h2, h3, h4, h5⟩ := h
    exact ⟨B, a, u, v1, v2, v3, nm, hs _ (obj_lt h3) h1, h2, h3, h4.map fun _ _ _ hb hx => ⟨hs _ (cell_lt hx) hb, hx⟩, EIn.mono hs u x h5⟩
  | v, .bin o p x y, h => by
    unfold EIn at h ⊢
    obtain ⟨B, a, u1, u2, v1, v2, v3, nm, h1, h2, h3, h4, h5, h6⟩ := h
    exact ⟨B, a, u1, u2, v1, v2, v3, nm, hs _ (obj_lt h3) h1, h2, h3, h4.map fun _ _ _ hb hx => ⟨hs _ (cell_lt hx) hb, hx⟩, EIn.mono hs u1 x h5, EIn.mono hs u2 y h6⟩
  | v, .call f p l, h => by
    unfold EIn at h ⊢
    obtain ⟨B, a, us, v1, v2, v3, h1, h2, h3, h4, h5⟩ := h
    exact ⟨B, a, us, v1, v2, v3, hs _ (obj_lt h3) h1, h2, h3, h4.map fun _ _ _ hb hx => ⟨hs _ (cell_lt hx) hb, hx⟩, EsIn.mono hs us l h5⟩
theorem EsIn.mono {S S' : Nat → Prop} {w : World} (hs : ∀ b, b < w.heap.size → S b → S' b) : ∀ (vs : List Value) (l : List Ex), EsIn S w vs l → EsIn S' w vs l
  | [], [], h => by unfold EsIn; trivial
  | v :: vs, x :: l, h => by
    unfold EsIn at h ⊢
    exact ⟨EIn.mono hs v x h.1, EsIn.mono hs vs l h.2⟩
  | [], _ :: _, h => by unfold EsIn at h; exact h.elim
  | _ :: _, [], h => by unfold EsIn at h; exact h.elim
end
/-- what a function of the document's parser answers: a tree, fewer tokens, or what is wrong. -/
def ROut (w : World) (R : Nat) (K : Row3) (L : List Tok) (i d : Nat) (T : Res → Prop) (e : Ending) (w' : World) : Prop :=
  Keeps (fun b => b ≠ R) w w' ∧ ∃ (r : Res) (B : Nat), T r ∧ e = .returned (.pointer (some ⟨B, 0, none⟩)) ∧ match r with
    | .error f => f.1 ≠ 0 ∧ ∃ j, i ≤ j ∧ j < L.length ∧ RAt w' R K L j d f.1 f.2
    | .ok x => EIn (fun b => b ≠ R ∧ w.heap.size ≤ b) w' (.pointer (some ⟨B, 0, none⟩)) x.1 ∧ ∃ j, i < j ∧ L.drop j = x.2 ∧ RAt w' R K L j d 0 0 ∧ EndL x.2
end Go.Proofs.YtgajofkeidjbgaaGreatDoor
namespace Go.Proofs.YtgajofkeidjbgaaGreatDoor
set_option linter.unusedSimpArgs false
set_option linter.unusedVariables false
open Go.RowKit

theorem what_eq {s : ByteArray} (l : List UInt8) (h : s = strB l) : (s.toList == l) = true := by rw [h, strB_toL']; simp
theorem what_ne {s : ByteArray} {l m : List UInt8} (h : s = strB l) (hn : l ≠ m) : (s.toList == m) = false := by rw [h, strB_toL']; simpa using hn
theorem ptr_inj {N N' : Nat} (h : Value.pointer (some ⟨N, 0, none⟩) = .pointer (some ⟨N', 0, none⟩)) : N = N' := by
  simp only [Value.pointer.injEq, Option.some.injEq, Addr.mk.injEq] at h
  exact h.1
theorem EIn.ptr {S : Nat → Prop} {w : World} {v : Value} {x : Ex} (h : EIn S w v x) : ∃ N, v = .pointer (some ⟨N, 0, none⟩) := by
  cases x <;> (unfold EIn at h)
  · obtain ⟨B, p, a, nm, -, h, -⟩ := h; exact ⟨B, h⟩
  · obtain ⟨B, a, v1, v2, v3, -, h, -⟩ := h; exact ⟨B, h⟩
  · obtain ⟨B, a, u, v1, v2, v3, nm, -, h, -⟩ := h; exact ⟨B, h⟩
  · obtain ⟨B, a, u1, u2, v1, v2, v3, nm, -, h, -⟩ := h; exact ⟨B, h⟩
  · obtain ⟨B, a, us, v1, v2, v3, -, h, -⟩ := h; exact ⟨B, h⟩
/-- where a tree's parts lie. -/
theorem kids_at {S : Nat → Prop} {w : World} {a : Value} {us : List Value} (h : KidsIn S w a us) (hu : us ≠ []) : ∃ b o c, a = .slice (some ⟨b, o, none⟩) us.length c ∧ ∀ i (hi : i < us.length), w.cell? ⟨b, o + i, none⟩ = some us[i] := by
  obtain ⟨ao, c, hv, -, -, -, he⟩ := h
  have h0 : 0 < us.length := List.length_pos_iff.2 hu
  obtain ⟨b, o, hao, -, -⟩ := he 0 h0
  subst hao
  refine ⟨b, o, c, hv, fun i hi => ?_⟩
  obtain ⟨b', o', e, -, hx⟩ := he i hi
  simp only [Option.some.injEq, Addr.mk.injEq, and_true] at e
  obtain ⟨rfl, rfl⟩ := e
  simpa using hx
theorem es_at {S : Nat → Prop} {w : World} : ∀ {vs : List Value} {l : List Ex}, EsIn S w vs l → ∀ k (h : k < l.length) (h' : k < vs.length), EIn S w vs[k] l[k]
  | [], [], _, k, h, _ => absurd h (by simp)
  | v :: vs, x :: l, hn, k, h, h' => by
    unfold EsIn at hn
    cases k with
    | zero => exact hn.1
    | succ k => exact es_at hn.2 k (by simpa using h) (by simpa using h')
  | [], _ :: _, h, _, _, _ => by unfold EsIn at h; exact h.elim
  | _ :: _, [], h, _, _, _ => by unfold EsIn at h; exact h.elim
theorem rexs_at : ∀ {l : List Ex}, ExsOk l → ∀ x ∈ l, ExOk x
  | [], _, x, h => absurd h (by simp)
  | y :: l, ho, x, h => by
    unfold ExsOk at ho
    rcases List.mem_cons.1 h with rfl | h
    · exact ho.1
    · exact rexs_at ho.2 x h
theorem ops_what : ∀ o ∈ opsW, o ≠ valueN ∧ o ≠ nameN ∧ o ≠ callN ∧ o ≠ minusN ∧ o ≠ notW := by decide
theorem es_len {S : Nat → Prop} {w : World} : ∀ {vs : List Value} {l : List Ex}, EsIn S w vs l → vs.length = l.length
  | [], [], _ => rfl
  | v :: vs, x :: l, h => by
    unfold EsIn at h
    simp [es_len h.2]
  | [], _ :: _, h => by unfold EsIn at h; exact h.elim
  | _ :: _, [], h => by unfold EsIn at h; exact h.elim
end Go.Proofs.YtgajofkeidjbgaaGreatDoor
