/-
  PROVED HERE: a part of the proof of ExprEvals: RefPar.
-/
import Derived.Test.YtgajofkeidjbgaaGreatDoorGRefP3
import Derived.Test.YtgajofkeidjbgaaGreatDoorGParUn2
namespace Go.Proofs.YtgajofkeidjbgaaGreatDoor
set_option linter.unusedSimpArgs false
set_option linter.unusedVariables false
open Go Go.RowKit
theorem rpar_lit {d : Nat} {t : Tok} {r : List Tok} {v : Val} (hk : t.k = 48 ∨ t.k = 39) (hr : qci t.t = some v) : Par false .un d (t :: r) (.ok (.lit v,r)) := by
 have hw : ∀ x,isW t x = false := fun x => by rcases hk with h | h <;> exact isW_k (by rw [h]; decide) (by rw [h]; decide)
 have h1 : ¬ isW (hdT (t :: r)) qbf = true := by show ¬ isW t qbf = true; rw [hw]; simp
 have h2 : ¬ isW (hdT (t :: r)) qbq = true := by show ¬ isW t qbq = true; rw [hw]; simp
 have h3 : (hdT (t :: r)).k = 48 ∨ (hdT (t :: r)).k = 39 := hk
 have h4 : qci (hdT (t :: r)).t = some v := hr
 exact ⟨1,by unfold qai; rw [if_neg h1,if_neg h2,if_pos h3,h4]; rfl⟩
theorem rpar_lit_bad {d : Nat} {t : Tok} {r : List Tok} (hk : t.k = 48 ∨ t.k = 39) (hr : qci t.t = none) : Par false .un d (t :: r) (.error (1,t.p)) := by
 have hw : ∀ x,isW t x = false := fun x => by rcases hk with h | h <;> exact isW_k (by rw [h]; decide) (by rw [h]; decide)
 have h1 : ¬ isW (hdT (t :: r)) qbf = true := by show ¬ isW t qbf = true; rw [hw]; simp
 have h2 : ¬ isW (hdT (t :: r)) qbq = true := by show ¬ isW t qbq = true; rw [hw]; simp
 have h3 : (hdT (t :: r)).k = 48 ∨ (hdT (t :: r)).k = 39 := hk
 have h4 : qci (hdT (t :: r)).t = none := hr
 exact ⟨1,by unfold qai; rw [if_neg h1,if_neg h2,if_pos h3,h4]; rfl⟩
theorem rpar_bool {d : Nat} {t : Tok} {r : List Tok} (hk : ¬ (t.k = 48 ∨ t.k = 39)) (ht : t.t = qed ∨ t.t = qdd) : Par false .un d (t :: r) (.ok (.lit ⟨2,if t.t = qed then 1 else 0,⟨#[]⟩⟩,r)) := by
 have hw : ∀ x,x ≠ qed → x ≠ qdd → isW t x = false := fun x g1 g2 => isW_t (ht.elim (fun h => by rw [h]; exact g1.symm) (fun h => by rw [h]; exact g2.symm))
 have h1 : ¬ isW (hdT (t :: r)) qbf = true := by show ¬ isW t qbf = true; rw [hw _ (by decide) (by decide)]; simp
 have h2 : ¬ isW (hdT (t :: r)) qbq = true := by show ¬ isW t qbq = true; rw [hw _ (by decide) (by decide)]; simp
 have h3 : ¬ ((hdT (t :: r)).k = 48 ∨ (hdT (t :: r)).k = 39) := hk
 have h4 : (hdT (t :: r)).t = qed ∨ (hdT (t :: r)).t = qdd := ht
 exact ⟨1,by unfold qai; rw [if_neg h1,if_neg h2,if_neg h3,if_pos h4]; rfl⟩
theorem rpar_long {d : Nat} {t : Tok} {r : List Tok} (hn : IsName t) (ho : TokOk t) (hl : 12 < t.t.length) : Par false .un d (t :: r) (.error (4,t.p)) := by
 obtain ⟨f1,f2,f3,f4⟩ := hn.facts ho
 have h1 : ¬ isW (hdT (t :: r)) qbf = true := by show ¬ isW t qbf = true; rw [f1]; simp
 have h2 : ¬ isW (hdT (t :: r)) qbq = true := by show ¬ isW t qbq = true; rw [f2]; simp
 have h3 : ¬ ((hdT (t :: r)).k = 48 ∨ (hdT (t :: r)).k = 39) := f3
 have h4 : ¬ ((hdT (t :: r)).t = qed ∨ (hdT (t :: r)).t = qdd) := f4
 have h5 : (hdT (t :: r)).k = 110 ∧ (hdT (t :: r)).t ∉ qes := hn
 have h6 : 12 < (hdT (t :: r)).t.length := hl
 exact ⟨1,by unfold qai; rw [if_neg h1,if_neg h2,if_neg h3,if_neg h4,if_pos h5,if_pos h6]; rfl⟩
theorem rpar_name {d : Nat} {t : Tok} {r : List Tok} (hn : IsName t) (ho : TokOk t) (hl : ¬ 12 < t.t.length) (hq : isW (hdT r) qbq = false) : Par false .un d (t :: r) (.ok (.name t.t t.p,r)) := by
 obtain ⟨f1,f2,f3,f4⟩ := hn.facts ho
 have h1 : ¬ isW (hdT (t :: r)) qbf = true := by show ¬ isW t qbf = true; rw [f1]; simp
 have h2 : ¬ isW (hdT (t :: r)) qbq = true := by show ¬ isW t qbq = true; rw [f2]; simp
 have h3 : ¬ ((hdT (t :: r)).k = 48 ∨ (hdT (t :: r)).k = 39) := f3
 have h4 : ¬ ((hdT (t :: r)).t = qed ∨ (hdT (t :: r)).t = qdd) := f4
 have h5 : (hdT (t :: r)).k = 110 ∧ (hdT (t :: r)).t ∉ qes := hn
 have h6 : ¬ 12 < (hdT (t :: r)).t.length := hl
 have h7 : ¬ isW (hdT (t :: r).tail) qbq = true := by show ¬ isW (hdT r) qbq = true; rw [hq]; simp
 exact ⟨1,by unfold qai; rw [if_neg h1,if_neg h2,if_neg h3,if_neg h4,if_pos h5,if_neg h6,if_neg h7]; rfl⟩
theorem rpar_callq {d : Nat} {t u : Tok} {r : List Tok} {s : Res} (hn : IsName t) (ho : TokOk t) (hl : ¬ 12 < t.t.length) (hq : isW u qbq = true) (hs : if 12 < d + 1 then s = .error (4,u.p) else Par false (.args t.t t.p []) (d + 1) r s) : Par false .un d (t :: u :: r) s := by
 obtain ⟨f1,f2,f3,f4⟩ := hn.facts ho
 have h1 : ¬ isW (hdT (t :: u :: r)) qbf = true := by show ¬ isW t qbf = true; rw [f1]; simp
 have h2 : ¬ isW (hdT (t :: u :: r)) qbq = true := by show ¬ isW t qbq = true; rw [f2]; simp
 have h3 : ¬ ((hdT (t :: u :: r)).k = 48 ∨ (hdT (t :: u :: r)).k = 39) := f3
 have h4 : ¬ ((hdT (t :: u :: r)).t = qed ∨ (hdT (t :: u :: r)).t = qdd) := f4
 have h5 : (hdT (t :: u :: r)).k = 110 ∧ (hdT (t :: u :: r)).t ∉ qes := hn
 have h6 : ¬ 12 < (hdT (t :: u :: r)).t.length := hl
 have h7 : isW (hdT (t :: u :: r).tail) qbq = true := hq
 by_cases hd : 12 < d + 1
 ·rw [if_pos hd] at hs
  subst hs
  exact ⟨1,by unfold qai; rw [if_neg h1,if_neg h2,if_neg h3,if_neg h4,if_pos h5,if_neg h6,if_pos h7,if_pos hd]; rfl⟩
 ·rw [if_neg hd] at hs
  obtain ⟨n,hn⟩ := hs
  exact ⟨n + 1,by unfold qai; rw [if_neg h1,if_neg h2,if_neg h3,if_neg h4,if_pos h5,if_neg h6,if_pos h7,if_neg hd]; exact hn⟩
theorem rpar_brackets {d : Nat} {t : Tok} {r : List Tok} {s : Res} (ht : isW t qbq = true) (hs : if 12 < d + 1 then s = .error (4,t.p) else ∃ s',Par false (.climb 0) (d + 1) r s' ∧ s = closeR s') : Par false .un d (t :: r) s := by
 have h1 : ¬ isW (hdT (t :: r)) qbf = true := by
  show ¬ isW t qbf = true
  intro h
  unfold isW at h ht
  simp only [Bool.and_eq_true,beq_iff_eq] at h ht
  rw [ht.1] at h
  exact absurd h.1 (by decide)
 have h2 : isW (hdT (t :: r)) qbq = true := ht
 by_cases hd : 12 < d + 1
 ·rw [if_pos hd] at hs
  subst hs
  exact ⟨1,by unfold qai; rw [if_neg h1,if_pos h2,if_pos hd]; rfl⟩
 ·rw [if_neg hd] at hs
  obtain ⟨s',⟨n,hn⟩,rfl⟩ := hs
  refine ⟨n + 1,?_⟩
  unfold qai
  rw [if_neg h1,if_pos h2,if_neg hd,show (t :: r).tail = r from rfl,show topJ false = .climb 0 from rfl,hn]
  cases s' with
  | error e => rfl
  | ok x =>
    show (if isW (hdT x.2) qbl = true then PR.ok (x.1,x.2.tail) else PR.err 1 (hdT x.2).p) = some (closeR (.ok x))
    unfold closeR
    simp only
    split <;> rfl
theorem rpar_none {d : Nat} {t : Tok} {r : List Tok} (h1 : isW t qbf = false) (h2 : isW t qbq = false) (h3 : ¬ (t.k = 48 ∨ t.k = 39)) (h4 : ¬ (t.t = qed ∨ t.t = qdd)) (h5 : ¬ IsName t) : Par false .un d (t :: r) (.error (1,t.p)) := by
 have g1 : ¬ isW (hdT (t :: r)) qbf = true := by show ¬ isW t qbf = true; rw [h1]; simp
 have g2 : ¬ isW (hdT (t :: r)) qbq = true := by show ¬ isW t qbq = true; rw [h2]; simp
 have g3 : ¬ ((hdT (t :: r)).k = 48 ∨ (hdT (t :: r)).k = 39) := h3
 have g4 : ¬ ((hdT (t :: r)).t = qed ∨ (hdT (t :: r)).t = qdd) := h4
 have g5 : ¬ ((hdT (t :: r)).k = 110 ∧ (hdT (t :: r)).t ∉ qes) := h5
 exact ⟨1,by unfold qai; rw [if_neg g1,if_neg g2,if_neg g3,if_neg g4,if_neg g5]; rfl⟩
theorem rpar_minus {d : Nat} {t : Tok} {r : List Tok} (h : isW t qbf = true) {s : Res} (hs : if 12 < d + 1 then s = .error (4,t.p) else ∃ s',Par false .un (d + 1) r s' ∧ s = match s' with
   | .error f => .error f
   | .ok x => .ok (.un true t.p x.1,x.2)) : Par false .un d (t :: r) s := by
 have h' : isW (hdT (t :: r)) qbf = true := h
 by_cases hd : 12 < d + 1
 ·rw [if_pos hd] at hs
  subst hs
  exact ⟨1,by unfold qai; rw [if_pos h',if_pos hd]; rfl⟩
 ·rw [if_neg hd] at hs
  obtain ⟨s',⟨n,hn⟩,rfl⟩ := hs
  refine ⟨n + 1,?_⟩
  unfold qai
  rw [if_pos h',if_neg hd,show (t :: r).tail = r from rfl,hn]
  cases s' <;> rfl
theorem rpar_args_close {f : List UInt8} {p d : Nat} {acc : List Ex} {t : Tok} {r : List Tok} (h : isW t qbl = true) : Par false (.args f p acc) d (t :: r) (.ok (.call f p acc,r)) := by
 have h' : isW (hdT (t :: r)) qbl = true := h
 exact ⟨1,by unfold qai; rw [if_pos h']; rfl⟩
theorem rpar_args_bad {f : List UInt8} {p d : Nat} {acc : List Ex} {t : Tok} {r : List Tok} (h : isW t qbl = false) (ha : acc ≠ []) (hc : isW t qdz = false) : Par false (.args f p acc) d (t :: r) (.error (1,t.p)) := by
 have h' : ¬ isW (hdT (t :: r)) qbl = true := by show ¬ isW t qbl = true; rw [h]; simp
 have h2 : acc ≠ [] ∧ ¬ isW (hdT (t :: r)) qdz = true := ⟨ha,by show ¬ isW t qdz = true; rw [hc]; simp⟩
 exact ⟨1,by unfold qai; rw [if_neg h',if_pos h2]; rfl⟩
theorem rpar_args_err {f : List UInt8} {p d : Nat} {acc : List Ex} {t : Tok} {r : List Tok} {e : Fault} (h : isW t qbl = false) (hc : acc = [] ∨ isW t qdz = true) (hb : Par false (.climb 0) d (if acc = [] then t :: r else r) (.error e)) : Par false (.args f p acc) d (t :: r) (.error e) := by
 have h' : ¬ isW (hdT (t :: r)) qbl = true := by show ¬ isW t qbl = true; rw [h]; simp
 have h2 : ¬ (acc ≠ [] ∧ ¬ isW (hdT (t :: r)) qdz = true) := fun hx => by
  rcases hc with hc | hc
  ·exact hx.1 hc
  ·exact hx.2 hc
 obtain ⟨n,hn⟩ := hb
 exact ⟨n + 1,by unfold qai; rw [if_neg h',if_neg h2,show topJ false = .climb 0 from rfl,show (t :: r).tail = r from rfl,hn]; rfl⟩
theorem rpar_args_go {f : List UInt8} {p d : Nat} {acc : List Ex} {t : Tok} {r l : List Tok} {x : Ex} {s : Res} (h : isW t qbl = false) (hc : acc = [] ∨ isW t qdz = true) (hb : Par false (.climb 0) d (if acc = [] then t :: r else r) (.ok (x,l)))
  (hs : Par false (.args f p (acc ++ [x])) d l s) : Par false (.args f p acc) d (t :: r) s := by
 have h' : ¬ isW (hdT (t :: r)) qbl = true := by show ¬ isW t qbl = true; rw [h]; simp
 have h2 : ¬ (acc ≠ [] ∧ ¬ isW (hdT (t :: r)) qdz = true) := fun hx => by
  rcases hc with hc | hc
  ·exact hx.1 hc
  ·exact hx.2 hc
 obtain ⟨n,e1,e2⟩ := hb.both hs
 exact ⟨n + 1,by unfold qai; rw [if_neg h',if_neg h2,show topJ false = .climb 0 from rfl,show (t :: r).tail = r from rfl,e1]; exact e2⟩
theorem rpar_climb_un {q d : Nat} {l : List Tok} {s : Res} (hn : ¬ (isW (hdT l) notW = true ∧ q ≤ 3)) (h : ∃ s',Par false .un d l s' ∧ match s' with
   | .error f => s = .error f
   | .ok x => Par false (.cloop q 9 false x.1) d x.2 s) : Par false (.climb q) d l s := by
 obtain ⟨s',h1,h2⟩ := h
 cases s' with
 | error f =>
   simp only at h2
   subst h2
   obtain ⟨n,hn'⟩ := h1
   exact ⟨n + 1,by unfold qai; rw [if_neg hn,hn']; rfl⟩
 | ok x =>
   obtain ⟨n,e1,e2⟩ := h1.both h2
   exact ⟨n + 1,by unfold qai; rw [if_neg hn,e1]; exact e2⟩
theorem rpar_climb_not {q d : Nat} {t : Tok} {r : List Tok} {s : Res} (hn : isW t notW = true ∧ q ≤ 3) (h : if 12 < d + 1 then s = .error (4,t.p) else ∃ s',Par false (.climb 3) (d + 1) r s' ∧ match s' with
   | .error f => s = .error f
   | .ok x => Par false (.cloop q 9 true (.un false t.p x.1)) d x.2 s) : Par false (.climb q) d (t :: r) s := by
 have hn' : isW (hdT (t :: r)) notW = true ∧ q ≤ 3 := hn
 by_cases hd : 12 < d + 1
 ·rw [if_pos hd] at h
  subst h
  exact ⟨1,by unfold qai; rw [if_pos hn',if_pos hd]; rfl⟩
 ·rw [if_neg hd] at h
  obtain ⟨s',h1,h2⟩ := h
  cases s' with
  | error f =>
    simp only at h2
    subst h2
    obtain ⟨n,e1⟩ := h1
    exact ⟨n + 1,by unfold qai; rw [if_pos hn',if_neg hd,show (t :: r).tail = r from rfl,e1]; rfl⟩
  | ok x =>
    obtain ⟨n,e1,e2⟩ := h1.both h2
    exact ⟨n + 1,by unfold qai; rw [if_pos hn',if_neg hd,show (t :: r).tail = r from rfl,e1]; exact e2⟩
end Go.Proofs.YtgajofkeidjbgaaGreatDoor
