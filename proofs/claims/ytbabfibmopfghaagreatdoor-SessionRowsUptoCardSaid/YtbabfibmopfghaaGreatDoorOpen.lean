/-
  PROVED HERE: a slice that came in, whatever its elements are, opened by what one element's cells say; what room its lists take. No program of its own.
-/
import Derived.Test.YtbabfibmopfghaaGreatDoorData
import Derived.SizedLaws
namespace Go.Proofs.YtbabfibmopfghaaGreatDoor
set_option linter.unusedSimpArgs false
set_option linter.unusedVariables false
open Go Go.RowKit Go.Deep

section
variable {H : Type} {P : Program}
/-- each list and text in a datum has room in a machine. -/
def Fits (P : Program) (t : TypeId) (d : DataW H) : Prop := ∀ n ∈ d.weights P t, n ≤ reachBytes
theorem weights_all {e : TypeId} : ∀ {l : List (DataW H)} {d : DataW H}, d ∈ l → ∀ n ∈ d.weights P e, n ∈ DataW.weightsAll P e l
  | [], _, h, _, _ => by cases h
  | d0 :: l, d, h, n, hn => by
    simp only [DataW.weightsAll, List.mem_append]
    rcases List.mem_cons.1 h with rfl | h
    · exact .inl hn
    · exact .inr (weights_all h n hn)
theorem Fits.each {ts : List TypeId} {ds : List (DataW H)} (h : (DataW.weightsEach P ts ds).all (· ≤ reachBytes) = true) {j : Nat} {t : TypeId} {d : DataW H} (ht : ts[j]? = some t) (hd : ds[j]? = some d) : Fits P t d :=
  fun n hn => by simpa using List.all_eq_true.1 h n (DataW.weights_mem_each ht hd n hn)
theorem Fits.field {t : TypeId} {fs : Array Field} {parts : List (DataW H)} (h : Fits P t (.agg parts)) (ht : P.underlying t = some (.struct fs)) {j : Nat} {f : Field} {d : DataW H} (hf : fs[j]? = some f) (hd : parts[j]? = some d) : Fits P f.type d :=
  fun n hn => h n (by
    simp only [DataW.weights, ht]
    exact DataW.weights_mem_each (j := j) (by simp [hf]) hd n hn)
theorem Fits.len {t e : TypeId} {elems spare : List (DataW H)} (h : Fits P t (.slice elems spare)) (ht : P.underlying t = some (.slice e)) : (elems.length + spare.length) * P.bytesOf e ≤ reachBytes :=
  h _ (by simp [DataW.weights, ht])
theorem Fits.elem {t e : TypeId} {elems spare : List (DataW H)} (h : Fits P t (.slice elems spare)) (ht : P.underlying t = some (.slice e)) {d : DataW H} (hd : d ∈ elems) : Fits P e d :=
  fun n hn => h n (by simp only [DataW.weights, ht, List.mem_cons, List.mem_append]; exact .inr (.inl (weights_all hd n hn)))

variable {enc : TypeId × Value → H} {w : World} {base : Nat} {spare : Nat → Bool} {held : Bool}
theorem open_struct {t : TypeId} {fs : Array Field} {n : Nat} {cs : List Value} {d : DataW H} {pl : List MemPlace} (ht : P.underlying t = some (.struct fs)) (h : DataW.trod enc P w base spare held n t cs = some (d, pl)) (hf : Fits P t d) :
    cs.length = P.cellsOf t ∧ ∀ (i : Nat) (f : Field), fs[i]? = some f → ∃ n' d' pl', DataW.trod enc P w base spare held n' f.type ((cs.drop f.offset).take (P.cellsOf f.type)) = some (d', pl') ∧ Fits P f.type d' := by
  obtain ⟨xs, n', _, hx, hl, hxl, hfs⟩ := DataW.trod_struct ht h
  simp only [Prod.mk.injEq] at hx
  obtain ⟨rfl, -⟩ := hx
  refine ⟨hl, fun i f hi => ?_⟩
  have hlt : i < xs.length := by rw [hxl]; exact (Array.getElem?_eq_some_iff.1 hi).1
  have hg := hfs i f hi
  rw [List.getElem?_eq_getElem hlt] at hg
  exact ⟨n', xs[i].1, xs[i].2, hg, hf.field ht hi (by simp [hlt])⟩
theorem list_one' {α : Type} : ∀ {l : List α}, l.length = 1 → ∃ a, l = [a]
  | [a], _ => ⟨a, rfl⟩
theorem open_list {α : Type} {tS e : TypeId} {size fuel : Nat} {At : World → Nat → Nat → α → Prop} {Good : α → Prop} {cs : List Value} {d : DataW H} {pl : List MemPlace} (ht : P.underlying tS = some (.slice e)) (hC : P.cellsOf e = size) (hpos : 0 < size)
    (hE : ∀ n cs' d pl, DataW.trod enc P w base spare held n e cs' = some (d, pl) → Fits P e d → cs'.length = size → ∃ x, Good x ∧ ∀ b o, (∀ j u, cs'[j]? = some u → w.cell? ⟨b, o + j, none⟩ = some u) → At w b o x)
    (h : DataW.trod enc P w base spare held fuel tS cs = some (d, pl)) (hf : Fits P tS d) : ∃ v l, cs = [v] ∧ SliceOf All At size w v l ∧ (∀ x ∈ l, Good x) ∧ l.length * P.bytesOf e ≤ reachBytes := by
  rcases open_slice ht h with ⟨rfl, _⟩ | ⟨a, len, cap, m, n, D, Pl, rfl, _, hl, hm, hmm, hx, hi⟩
  · exact ⟨_, [], rfl, ⟨none, 0, rfl, Nat.le_refl _, by unfold maxLen; omega, fun _ => rfl, fun i hi => (by cases hi)⟩, (fun x hx => (by cases hx)), by simp⟩
  · have hlm : len ≤ m := by rw [hmm]; split <;> omega
    simp only [Prod.mk.injEq] at hx
    obtain ⟨rfl, -⟩ := hx
    have hw := hf.len ht
    simp only [List.length_map, List.length_range] at hw
    have key : ∀ i, i < len → ∃ x, (a.spot = none ∧ Good x) ∧ At w a.block (a.off + i * size) x := fun i hil => by
      obtain ⟨cs', hc, ht'⟩ := hi i (by omega)
      rw [hC] at hc
      obtain ⟨_, hcl, hat⟩ := World.cells?_some hc
      have hs : a.spot = none := by
        obtain ⟨cs0, hc0, _⟩ := hi 0 (by omega)
        rw [hC] at hc0
        obtain ⟨_, hcl0, hat0⟩ := World.cells?_some hc0
        have h0 := hat0 0 hpos
        rw [List.getElem?_eq_getElem (by omega)] at h0
        have := World.cell?_spot h0
        simpa [Addr.add] using this
      obtain ⟨x, hg, hA⟩ := hE n cs' _ _ ht' (hf.elem ht (List.mem_map.2 ⟨i, List.mem_range.2 hil, rfl⟩)) hcl
      refine ⟨x, ⟨hs, hg⟩, hA _ _ fun j u hu => ?_⟩
      have hj : j < size := by have := (List.getElem?_eq_some_iff.1 hu).1; omega
      have hh := hat j hj
      rw [hu, add_none hs, add_none rfl] at hh
      exact hh
    obtain ⟨l, rfl, hp⟩ := list_of len key
    refine ⟨_, l, rfl, ⟨some a, cap, rfl, hl, hm, fun h => (by cases h), fun i hi => ⟨a.block, a.off, (by obtain ⟨⟨hs, _⟩, _⟩ := hp i hi; cases a; simp only at hs; subst hs; rfl), trivial, (hp i hi).2⟩⟩, fun x hx => (by obtain ⟨i, hi, rfl⟩ := List.getElem_of_mem hx; exact (hp i hi).1.2), ?_⟩
    exact Nat.le_trans (Nat.mul_le_mul_right _ (Nat.le_add_right _ _)) hw
end
end Go.Proofs.YtbabfibmopfghaaGreatDoor
