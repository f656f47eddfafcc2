/-
  PROVED HERE: what slices.Insert does to a block of one's own: the two copies, in place or into a new block. No program of its own.
-/
import Derived.Test.YtcmpjdnbjhkhdaaDoorAppX
import Derived.Lib.AppendZerosOnto
namespace Go.Proofs.YtcmpjdnbjhkhdaaDoor
set_option linter.unusedSimpArgs false
set_option linter.unusedVariables false
open Go Go.RowKit

/-- the two copies: what stood behind goes up, then what is new goes in. -/
theorem ins_up {cur xs news : List Value} {o s m : Nat} (hx : cur.take m = xs) (hl : xs.length = m) (ho : o ≤ m) (hn : news.length = s) (hc : m + s ≤ cur.length)
    {c1 c2 : List Value} (h1 : c1 = cur.take (o + s) ++ xs.drop o ++ cur.drop (o + s + (xs.drop o).length)) (h2 : c2 = c1.take o ++ news ++ c1.drop (o + news.length)) :
    c2.length = cur.length ∧ c2.take (m + s) = xs.take o ++ news ++ xs.drop o := by
  obtain ⟨r, hr⟩ : ∃ r, cur = xs ++ r := ⟨cur.drop m, by rw [← hx, List.take_append_drop]⟩
  subst hr
  obtain ⟨A, B, hxs, hA⟩ : ∃ A B, xs = A ++ B ∧ A.length = o := ⟨xs.take o, xs.drop o, (List.take_append_drop _ _).symm, by rw [List.length_take]; omega⟩
  subst hxs
  rw [List.length_append] at hl hc
  rw [List.length_append] at hc
  have e1 : (A ++ B).drop o = B := by rw [← hA, List.drop_left]
  have e2 : (A ++ B).take o = A := by rw [← hA, List.take_left]
  rw [e1] at h1 ⊢
  rw [e2]
  have f1 : (A ++ B ++ r).take (o + s) = A ++ (B ++ r).take s := by rw [List.append_assoc, ← hA, List.take_length_add_append]
  have f2 : (A ++ B ++ r).drop (o + s + B.length) = r.drop s := by
    rw [show o + s + B.length = (A ++ B).length + s by rw [List.length_append]; omega, List.drop_length_add_append]
  rw [f1, f2] at h1
  have g1 : c1.take o = A := by rw [h1, List.append_assoc, List.append_assoc, ← hA, List.take_left]
  have hs : ((B ++ r).take s).length = s := by rw [List.length_take, List.length_append]; omega
  have g2 : c1.drop (o + news.length) = B ++ r.drop s := by
    rw [h1, hn, show A ++ (B ++ r).take s ++ B ++ r.drop s = (A ++ (B ++ r).take s) ++ (B ++ r.drop s) by simp, show o + s = (A ++ (B ++ r).take s).length by rw [List.length_append, hs, hA], List.drop_left]
  rw [g1, g2] at h2
  subst h2
  refine ⟨by simp; omega, ?_⟩
  rw [show A ++ news ++ (B ++ r.drop s) = (A ++ news ++ B) ++ r.drop s by simp, show m + s = (A ++ news ++ B).length by simp; omega, List.take_left]
/-- .. and in a new block. -/
theorem ins_new {Z xs news : List Value} {o s m : Nat} (hl : xs.length = m) (ho : o ≤ m) (hn : news.length = s) (hc : m + s ≤ o + Z.length)
    {c0 c1 c2 : List Value} (h0 : c0 = xs.take o ++ Z) (h1 : c1 = c0.take o ++ news ++ c0.drop (o + news.length)) (h2 : c2 = c1.take (o + s) ++ xs.drop o ++ c1.drop (o + s + (xs.drop o).length)) :
    c2.length = c0.length ∧ c2.take (m + s) = xs.take o ++ news ++ xs.drop o := by
  obtain ⟨A, B, hxs, hA⟩ : ∃ A B, xs = A ++ B ∧ A.length = o := ⟨xs.take o, xs.drop o, (List.take_append_drop _ _).symm, by rw [List.length_take]; omega⟩
  subst hxs
  rw [List.length_append] at hl
  have e1 : (A ++ B).drop o = B := by rw [← hA, List.drop_left]
  have e2 : (A ++ B).take o = A := by rw [← hA, List.take_left]
  rw [e1] at h2 ⊢
  rw [e2] at h0 ⊢
  subst h0
  have g1 : (A ++ Z).take o = A := by rw [← hA, List.take_left]
  have g2 : (A ++ Z).drop (o + news.length) = Z.drop s := by rw [hn, ← hA, List.drop_length_add_append]
  rw [g1, g2] at h1
  subst h1
  have k1 : (A ++ news ++ Z.drop s).take (o + s) = A ++ news := by rw [show o + s = (A ++ news).length by simp; omega, List.take_left]
  have k2 : (A ++ news ++ Z.drop s).drop (o + s + B.length) = (Z.drop s).drop B.length := by rw [show o + s + B.length = (A ++ news).length + B.length by simp; omega, List.drop_length_add_append]
  rw [k1, k2] at h2
  subst h2
  refine ⟨by simp; omega, ?_⟩
  rw [show m + s = (A ++ news ++ B).length by simp; omega, List.take_left]

section
variable {P : Program} {w : World}
/-- append(s, make([]T, k)...) where there is no room. -/
theorem wpList_append_zeros {ops : Array Oper} {rest : List Oper} {o : Oper} {a : Act} {Q : Exit → Act → World → Prop} (hgd : o.guard = none) (s x : Operand) (t tn : TypeId)
    (ho : o.op = .call { callee := .builtin .append, args := #[s, x], argTypes := #[t, tn] }) {e : TypeId} {size bytes : Nat} {kq kn : IntKind} (ht : P.underlying t = some (.slice e)) (htn : P.underlying tn = some (.int kn)) (hI : ElemInfo P e size bytes)
    {g n cap : Nat} {olds : List Value} (hs : a.eval s = .slice (some ⟨g, 0, none⟩) n cap) (hl : olds.length = n * size) (holds : ∀ j u, olds[j]? = some u → w.cell? ⟨g, j, none⟩ = some u)
    {k : Nat} (hx : a.eval x = .int kq k) (h0 : 0 < k) (hg : cap < n + k) (h63 : n + k ≤ maxLen) (hbytes : (n + k) * bytes ≤ 140737488355328)
    (h : ∀ Z c, n + k ≤ c → c ≤ maxLen → Z.length = (c - n) * size → wpList P ops Q rest (a.put o.dst (.slice (some ⟨w.heap.size, 0, none⟩) (n + k) c)) (w.drew.alloc (.cells (olds ++ Z).toArray e (0, 0)))) : wpList P ops Q (o :: rest) a w := by
  obtain ⟨i, z, hi, hz, h3, h4, h5, h6⟩ := hI.ex
  subst h3
  subst h4
  have hold : (Builtin.firstCells i.size n (.slice (some ⟨g, 0, none⟩) n cap)).run P w.drew = .ok olds.toArray w.drew :=
    run_firstCells_some w.drew i.size n ⟨g, 0, none⟩ n cap olds hl (fun j u hu => by rw [add_none rfl]; simpa using holds j u hu)
  have hkb : k * i.bytes ≤ (n + k) * i.bytes := Nat.mul_le_mul_right _ (by omega)
  have hrun := Lib.run_append_grow_zeros (P := P) (ty := o.type) w t tn e i z kq kn ht htn hi hz (some ⟨g, 0, none⟩) n cap olds hold k h0 h6 hg (by have := h63; simp only [maxLen] at this; omega) (by omega) (growslice_fits hg hbytes)
  obtain ⟨Z1, hZ1⟩ : ∃ Z1, Builtin.zeroCells z.cells k = Z1 := ⟨_, rfl⟩
  obtain ⟨Z2, hZ2⟩ : ∃ Z2, Builtin.zeroCells z.cells (grownCap w (n + k) cap e - (n + k)) = Z2 := ⟨_, rfl⟩
  have s1 : Z1.size = k * i.size := by rw [← hZ1, size_zeroCells, h5]
  have s2 : Z2.size = (grownCap w (n + k) cap e - (n + k)) * i.size := by rw [← hZ2, size_zeroCells, h5]
  have hge := grownCap_ge w (n + k) cap e
  have hle := grownCap_le_maxLen w (n + k) cap e h63
  rw [hZ1, hZ2, show olds.toArray ++ Z1 ++ Z2 = (olds ++ (Z1.toList ++ Z2.toList)).toArray by apply Array.ext'; simp] at hrun
  refine Lib.wpList_append_run w hgd s x t tn ho _ _ hs hx _ _ hrun (h (Z1.toList ++ Z2.toList) _ hge hle ?_)
  rw [List.length_append, Array.length_toList, Array.length_toList, s1, s2, ← Nat.add_mul]
  congr 1
  omega
end
end Go.Proofs.YtcmpjdnbjhkhdaaDoor
