/-
  PROVED HERE: an append onto a slice of one's own, with the word of which of two things it did: it filled the slice's own block, or it left all as it was and made a new one. No program of its own.
-/
import Derived.Test.YtbabfibmopfghaaGreatDoorOwnLaws
import Derived.Test.YtbabfibmopfghaaGreatDoorApp
namespace Go.Proofs.YtbabfibmopfghaaGreatDoor
set_option linter.unusedSimpArgs false
set_option linter.unusedVariables false
open Go Go.RowKit

section
variable {P : Program} {w : World}
structure AppX (w : World) (base : Nat) (e : TypeId) (size : Nat) (v : Value) (n m : Nat) (xs : List Value) (v' : Value) (w' : World) : Prop where
  own : w'.ownsRow base e size v' (n + m) xs
  kind : (∃ g cap, v = .slice (some ⟨g, 0, none⟩) n cap ∧ v' = .slice (some ⟨g, 0, none⟩) (n + m) cap ∧ Keeps (fun b => b ≠ g) w w') ∨ (Later w w' ∧ ∀ b, v'.ownBlock = some b → w.heap.size ≤ b)
theorem append_x {base : Nat} {t ty e : TypeId} {i : TypeInfo} {z : Value} {size bytes : Nat} (ht : P.underlying t = some (.slice e)) (hi : P.info? e = some i) (hz : i.zero = some z)
    (hsize : i.size = size) (hby : i.bytes = bytes) {v : Value} {n : Nat} {xs : List Value} (hown : w.ownsRow base e size v n xs)
    {a : Addr} {m c : Nat} {news : List Value} (hl : news.length = m * size) (hnews : ∀ j u, news[j]? = some u → w.cell? (a.add j) = some u) (h1 : ∀ u ∈ news, u.oneCell' = true)
    (h63 : n + m ≤ maxLen) (hbytes : (n + m) * bytes ≤ 140737488355328) {v' : Value} {w' : World} (hr : (Builtin.append_ #[t, t] ty #[v, .slice (some a) m c]).run P w = .ok v' w') (h3 : w.grownBy w' v.ownBlock) :
    (∃ g cap, v = .slice (some ⟨g, 0, none⟩) n cap ∧ v' = .slice (some ⟨g, 0, none⟩) (n + m) cap ∧ Keeps (fun b => b ≠ g) w w') ∨ (Later w w' ∧ ∀ b, v'.ownBlock = some b → w.heap.size ≤ b) := by
  subst hsize
  subst hby
  have hsmall : n + m ≤ 9223372036854775807 := by simp only [maxLen] at h63; omega
  rcases hown.2 with ⟨rfl, rfl⟩ | ⟨g, cap, cur, rfl, hbg, hg, hnc, hcm, hcs, htake⟩
  · by_cases hm : m = 0
    · subst hm
      have hn : news = [] := List.eq_nil_of_length_eq_zero (by simpa using hl)
      subst hn
      have : (Builtin.append_ #[t, t] ty #[.slice none 0 0, .slice (some a) 0 c]).run P w = .ok (.slice none 0 0) w := by
        simp [Builtin.append_, run_underlying ht, sizeOf, typeInfo, hi, Builtin.lenOf, Builtin.firstCells, loadCells, loadCellsFrom]
      rw [this] at hr
      injection hr with hv hw
      subst hv hw
      exact .inr ⟨Later.refl _, fun b hb => by cases hb⟩
    · have hr' := run_append_nil (P := P) w t ty e i z ht hi hz a m c news hl hnews (by omega) (by omega) (by have hb := hbytes; simp only [Nat.zero_add] at hb; omega)
      rw [hr'] at hr
      injection hr with hv hw
      subst hv hw
      exact .inr ⟨((Later.refl w).drew').alloc' _, fun b hb => by simp only [Value.ownBlock, Option.some.injEq] at hb; omega⟩
  · by_cases hroom : n + m ≤ cap
    · have hfit : n * i.size + news.length ≤ cur.size := by rw [hl, hcs, ← Nat.add_mul]; exact Nat.mul_le_mul_right _ hroom
      rw [run_append_room (P := P) w t ty e i ht hi g n cap cur hg a m c news hl hnews h1 hroom hfit] at hr
      injection hr with hv hw
      subst hv
      exact .inl ⟨g, cap, rfl, rfl, (Keeps.of_grown h3).mono fun b _ hb e => hb (by simp only [Value.ownBlock, Option.some.injEq] at e; exact e)⟩
    · have holds : ∀ j u, xs[j]? = some u → w.cell? ((⟨g, 0, none⟩ : Addr).add j) = some u := hown.cells (g := g) rfl
      have hr' := run_append_grow (P := P) w t ty e i z ht hi hz ⟨g, 0, none⟩ n cap xs hown.1 holds a m c news hl hnews (by omega) (by omega) (growslice_fits (by omega) hbytes)
      rw [hr'] at hr
      injection hr with hv hw
      subst hv hw
      exact .inr ⟨((Later.refl w).drew').alloc' _, fun b hb => by simp only [Value.ownBlock, Option.some.injEq] at hb; omega⟩
theorem wpList_append_objx {ops : Array Oper} {rest : List Oper} {o : Oper} {a : Act} {Q : Exit → Act → World → Prop} (hgd : o.guard = none) (s x : Operand) (t : TypeId)
    (ho : o.op = .call { callee := .builtin .append, args := #[s, x], argTypes := #[t, t] })
    (e : TypeId) (size bytes : Nat) (ht : P.underlying t = some (.slice e)) (hI : ElemInfo P e size bytes)
    {base : Nat} {v : Value} {n : Nat} {xs : List Value} (hs : a.eval s = v) (hown : w.ownsRow base e size v n xs)
    {b m c : Nat} {news : List Value} {T : TypeId} {f : Nat × Nat} (hx : a.eval x = .slice (some ⟨b, 0, none⟩) m c) (hsrc : w.heap[b]? = some (.cells news.toArray T f)) (hl : news.length = m * size) (h1 : ∀ u ∈ news, u.oneCell' = true)
    (hbytes : (n + m) * bytes ≤ 140737488355328) (h63 : n + m ≤ maxLen) (hbase : base ≤ w.heap.size)
    (h : ∀ v' w', AppX w base e size v n m (xs ++ news) v' w' → wpList P ops Q rest (a.put o.dst v') w') : wpList P ops Q (o :: rest) a w := by
  obtain ⟨i, z, hi, hz, h3, h4, h5, h6⟩ := hI.ex
  have hnews : ∀ j u, news[j]? = some u → w.cell? ((⟨b, 0, none⟩ : Addr).add j) = some u := by
    intro j u hu
    rw [add_none rfl]
    exact cell_obj hsrc (by simpa using hu)
  refine wpList_plain hgd fun K hK => ?_
  obtain ⟨v', w', hr, k2, k3, _⟩ := run_append_own (P := P) w base t o.type e i z size bytes ht hi hz h3 h4 h5 h6 v n xs hown ⟨b, 0, none⟩ m c news hl hnews h1 h63 hbytes hbase
  have hb := append_x ht hi hz h3 h4 hown hl hnews h1 h63 hbytes hr k3
  unfold Oper.wp execOp
  simp only [ho, resolve, invoke, builtin, Sem.run_bind, Sem.run_pure, Result.andThen_ok, List.map_toArray, List.map_cons, List.map_nil, hs, hx, hr]
  exact hK _ _ (h v' w' ⟨k2, hb⟩)
end
end Go.Proofs.YtbabfibmopfghaaGreatDoor
