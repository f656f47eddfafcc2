/-
  PROVED HERE: a call's parts, as the document's 'first' collects them, in memory.
-/
import Derived.Test.YtgajofkeidjbgaaGreatDoorRefP5
import Derived.Test.YtgajofkeidjbgaaGreatDoorGRegionK
namespace Go.Proofs.YtgajofkeidjbgaaGreatDoor
set_option linter.unusedSimpArgs false
set_option linter.unusedVariables false
open Go.RowKit

theorem es_len {S : Nat → Prop} {w : World} : ∀ {vs : List Value} {l : List Ex}, EsIn S w vs l → vs.length = l.length
  | [], [], _ => rfl
  | v :: vs, x :: l, h => by
    unfold EsIn at h
    simp [es_len h.2]
  | [], _ :: _, h => by unfold EsIn at h; exact h.elim
  | _ :: _, [], h => by unfold EsIn at h; exact h.elim
theorem es_add {S : Nat → Prop} {w : World} {v : Value} {x : Ex} (hx : EIn S w v x) : ∀ {vs : List Value} {l : List Ex}, EsIn S w vs l → EsIn S w (vs ++ [v]) (l ++ [x])
  | [], [], _ => by show EsIn S w [v] [x]; unfold EsIn; exact ⟨hx, by unfold EsIn; trivial⟩
  | u :: vs, y :: l, h => by
    unfold EsIn at h
    show EsIn S w (u :: (vs ++ [v])) (y :: (l ++ [x]))
    unfold EsIn
    exact ⟨h.1, es_add hx h.2⟩
  | [], _ :: _, h => by unfold EsIn at h; exact h.elim
  | _ :: _, [], h => by unfold EsIn at h; exact h.elim
/-- a call's object while its parts are read. -/
def callO (f : List UInt8) (p : Nat) (a : Value) : Obj := .cells #[.string (strB callN), .int .i64 (p : Int), a, .int .i64 0, .int .i64 0, .string ⟨#[]⟩, .string (strB f)] 77 (0, 0)
theorem kids_own {S : Nat → Prop} {w : World} {B : Nat} {e : TypeId} {a : Value} {us : List Value} (h : w.ownsRow B e 1 a us.length us) (hS : ∀ g, a.ownBlock = some g → S g) : KidsIn S w a us := by
  rcases h.2 with ⟨rfl, h0⟩ | ⟨g, cap, cur, rfl, hb, hg, hn, hm, hs, ht⟩
  · obtain rfl := List.eq_nil_of_length_eq_zero h0
    exact ⟨none, 0, rfl, by simp, by decide, fun _ => rfl, fun i hi => absurd hi (by simp)⟩
  · refine ⟨_, cap, rfl, hn, hm, by simp, fun i hi => ⟨g, 0, rfl, hS g rfl, ?_⟩⟩
    have := h.cells (g := g) rfl i us[i] (List.getElem?_eq_getElem hi)
    rw [add_none rfl] at this
    simpa using this
/-- what has been read of a call is a tree. -/
theorem rcall_tree {w wx : World} {R C : Nat} {f : List UInt8} {p : Nat} {acc : List Ex} {us : List Value} {a : Value} (hRw : R < w.heap.size) (hC : w.heap.size ≤ C) (hown : wx.ownsRow w.heap.size 26 1 a us.length us) (ho : wx.heap[C]? = some (callO f p a))
    (hes : EsIn (fun b => b ≠ R ∧ w.heap.size ≤ b ∧ b ≠ C ∧ a.ownBlock ≠ some b) wx us acc) : EIn (fun b => b ≠ R ∧ w.heap.size ≤ b) wx (.pointer (some ⟨C, 0, none⟩)) (.call f p acc) := by
  unfold EIn
  refine ⟨C, a, us, _, _, _, ⟨by omega, hC⟩, rfl, ho, kids_own hown fun g hg => ?_, EsIn.mono (fun b _ h => ⟨h.1, h.2.1⟩) _ _ hes⟩
  have := (hown.lt g hg).1
  exact ⟨by omega, this⟩
/-- a part appended to a call's parts, and stored into the call. -/
theorem rcall_add {w w6 w7 : World} {R C : Nat} {K : Row3} {L : List Tok} {f : List UInt8} {p j d bad : Nat} {e : Int} {us : List Value} {a v' xv : Value} (hRw : R < w.heap.size) (hCw : w.heap.size ≤ C)
    (hown : w6.ownsRow w.heap.size 26 1 a us.length us) (hC : w6.heap[C]? = some (callO f p a)) (hr : RAt w6 R K L j d e bad) (hk : Keeps (fun b => b ≠ R) w w6)
    (hA : AppX w6 w.heap.size 26 1 a us.length 1 (us ++ [xv]) v' w7) :
    w7.heap[C]? = some (callO f p a) ∧ (w7.setCell ⟨C, 2, none⟩ v').heap[C]? = some (callO f p v') ∧ (w7.setCell ⟨C, 2, none⟩ v').ownsRow w.heap.size 26 1 v' (us ++ [xv]).length (us ++ [xv]) ∧
    RAt (w7.setCell ⟨C, 2, none⟩ v') R K L j d e bad ∧ Keeps (fun b => b ≠ R) w (w7.setCell ⟨C, 2, none⟩ v') ∧
    (∀ (acc : List Ex) (x : Ex), EsIn (fun b => b ≠ R ∧ w.heap.size ≤ b ∧ b ≠ C ∧ a.ownBlock ≠ some b) w6 us acc → EIn (fun b => b ≠ R ∧ w.heap.size ≤ b ∧ b ≠ C ∧ a.ownBlock ≠ some b) w6 xv x →
      EsIn (fun b => b ≠ R ∧ w.heap.size ≤ b ∧ b ≠ C ∧ v'.ownBlock ≠ some b) (w7.setCell ⟨C, 2, none⟩ v') (us ++ [xv]) (acc ++ [x])) := by
  have hk7 := hA.keeps
  unfold callO at hC ⊢
  have hCa : a.ownBlock ≠ some C := own_ne hown hC (by decide)
  have hC7 := hk7.obj hCa hC
  have hCv : v'.ownBlock ≠ some C := own_ne hA.own hC7 (by decide)
  have hk8 : Keeps (fun b => b ≠ C) w7 (w7.setCell ⟨C, 2, none⟩ v') := (Keeps.refl _ w7).setCell (p := ⟨C, 2, none⟩) (.inl fun h => h rfl) _
  have hRa : a.ownBlock ≠ some R := fun e => by have := (hown.lt R e).1; omega
  have hga : a.ownBlock ≠ some K.g := fun e => by have := (hown.lt _ e).1; have := hr.2.1; omega
  have hr7 : RAt w7 R K L j d e bad := hr.kept hk7 hRa hga
  have hg := hr.2.1
  have hr8 : RAt (w7.setCell ⟨C, 2, none⟩ v') R K L j d e bad := hr7.kept hk8 (by show R ≠ C; omega) (by show K.g ≠ C; omega)
  refine ⟨hC7, obj_setCell (i := 2) hC7 v', ?_, hr8, (hk.under (hk7.mono fun b _ hb e => ?_)).under (hk8.mono fun b _ hb e => ?_), fun acc x hes hx => ?_⟩
  · have h := own_set (p := ⟨C, 2, none⟩) hA.own hCv v'
    have e : (us ++ [xv]).length = us.length + 1 := by simp
    rw [e]
    exact h
  · have := (hown.lt b e).1
    omega
  · omega
  · have hall : EsIn (fun b => b ≠ R ∧ w.heap.size ≤ b ∧ b ≠ C ∧ a.ownBlock ≠ some b ∧ v'.ownBlock ≠ some b) w6 (us ++ [xv]) (acc ++ [x]) := by
      refine EsIn.mono (fun b hb h => ⟨h.1, h.2.1, h.2.2.1, h.2.2.2, fun e => ?_⟩) _ _ (es_add hx hes)
      rcases hA.kind with ⟨g, cap, hv, hv', -⟩ | ⟨-, hnew⟩
      · rw [hv'] at e
        have : g = b := Option.some.inj e
        exact h.2.2.2 (by rw [hv, ← this]; rfl)
      · have := hnew b e
        omega
    exact EsIn.mono (fun b _ h => ⟨h.1, h.2.1, h.2.2.1, h.2.2.2.2⟩) _ _ (EsIn.kept hk8 (fun b h => h.2.2.1) _ _ (EsIn.kept hk7 (fun b h => h.2.2.2.1) _ _ hall))
/-- 1 while nothing is wrong. -/
def errOf (w : World) (R : Nat) : Nat := match w.cell? ⟨R, 3, none⟩ with
  | some (.int _ n) => if n = 0 then 1 else 0
  | _ => 0
theorem RAt.err {w : World} {R : Nat} {K : Row3} {L : List Tok} {i d bad : Nat} {e : Int} (h : RAt w R K L i d e bad) : errOf w R = if e = 0 then 1 else 0 := by
  unfold errOf
  rw [h.cells.2.2.2.1]
/-- what the loop over a call's parts has at its head. -/
def RCallRel (w : World) (R : Nat) (K : Row3) (L : List Tok) (i d C : Nat) (f : List UInt8) (p : Nat) (wx : World) : Prop :=
  Keeps (fun b => b ≠ R) w wx ∧ ((∃ (acc : List Ex) (us : List Value) (a : Value) (j : Nat), wx.heap[C]? = some (callO f p a) ∧ wx.ownsRow w.heap.size 26 1 a us.length us ∧ EsIn (fun b => b ≠ R ∧ w.heap.size ≤ b ∧ b ≠ C ∧ a.ownBlock ≠ some b) wx us acc ∧
      RAt wx R K L j (d + 1) 0 0 ∧ EndL (L.drop j) ∧ i < j ∧ us.length ≤ j ∧ d + 1 ≤ 12 ∧ ∀ s, Par false (.args f p acc) (d + 1) (L.drop j) s → Par false .un d (L.drop i) s) ∨
    ∃ (c : Int) (q j : Nat), RAt wx R K L j (d + 1) c q ∧ c ≠ 0 ∧ i < j ∧ j < L.length ∧ Par false .un d (L.drop i) (.error (c, q)))
/-- what reading one part of a call leaves. -/
def KidRes (w : World) (R : Nat) (L : List Tok) (jq B : Nat) (e : Int) (b j1 : Nat) (w5 : World) (rs : Res) : Prop := match rs with
  | .error f => e ≠ 0 ∧ j1 < L.length ∧ e = f.1 ∧ b = f.2
  | .ok y => e = 0 ∧ b = 0 ∧ EIn (fun b => b ≠ R ∧ w.heap.size ≤ b) w5 (.pointer (some ⟨B, 0, none⟩)) y.1 ∧ jq < j1 ∧ L.drop j1 = y.2 ∧ EndL y.2
/-- behind the loop. -/
def RCallEnd (w : World) (R : Nat) (K : Row3) (L : List Tok) (i d C : Nat) (wx : World) : Prop :=
  Keeps (fun b => b ≠ R) w wx ∧ ∃ (j : Nat) (e : Int) (b : Nat), RAt wx R K L j (d + 1) e b ∧ i < j ∧ j < L.length ∧
    ((e = 0 ∧ b = 0 ∧ isW (hdT (L.drop j)) closeW = true ∧ ∃ x, EIn (fun b => b ≠ R ∧ w.heap.size ≤ b) wx (.pointer (some ⟨C, 0, none⟩)) x ∧ Par false .un d (L.drop i) (.ok (x, L.drop (j + 1))) ∧ EndL (L.drop (j + 1))) ∨
      (e ≠ 0 ∧ Par false .un d (L.drop i) (.error (e, b))))
end Go.Proofs.YtgajofkeidjbgaaGreatDoor
