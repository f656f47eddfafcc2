/-
  PROVED HERE: the contract of slices.Delete at prepared transactions: one of them.
-/
import Derived.Test.YtcmpjdnbjhkhdaaDoorTabIns
import Derived.Test.YtcmpjdnbjhkhdaaDoorStrOwn
namespace Go.Proofs.YtcmpjdnbjhkhdaaDoor
set_option linter.unusedSimpArgs false
set_option linter.unusedVariables false
open Go.RowKit

def OwnP (B : Nat) (w : World) (v : Value) (l : List PD) : Prop := w.ownsRow B 137 4 v l.length (pdCells l)
theorem OwnP.nil (B : Nat) (w : World) : OwnP B w (.slice none 0 0) [] := ⟨rfl, .inl ⟨rfl, rfl⟩⟩
theorem OwnP.slice {B : Nat} {w : World} {v : Value} {l : List PD} (h : OwnP B w v l) : ∃ a c, v = .slice a l.length c := by
  rcases h.2 with ⟨rfl, h0⟩ | ⟨g, cap, cur, rfl, _⟩
  · exact ⟨none, 0, by rw [h0]⟩
  · exact ⟨_, _, rfl⟩
theorem OwnP.later {B : Nat} {w w' : World} {v : Value} {l : List PD} (h : OwnP B w v l) (k : Later w w') : OwnP B w' v l := owns_at h k
theorem OwnP.keep {S : Nat → Prop} {B : Nat} {w w' : World} {v : Value} {l : List PD} (h : OwnP B w v l) (k : Keeps S w w') (hs : ∀ g, v.ownBlock = some g → S g) : OwnP B w' v l := owns_keep h k hs
theorem OwnP.len {B c n : Nat} {w : World} {a : Option Addr} {l : List PD} (h : OwnP B w (.slice a n c) l) : n = l.length ∧ n ≤ c ∧ c ≤ maxLen ∧ (a = none → n = 0 ∧ c = 0) := by
  obtain ⟨hl, ⟨h, h0⟩ | ⟨g, cap', cur, hv, hb, hg, h1, h2, h3, h4⟩⟩ := h
  · simp only [Value.slice.injEq] at h
    obtain ⟨rfl, rfl, rfl⟩ := h
    exact ⟨h0.symm, Nat.le_refl _, by unfold maxLen; omega, fun _ => ⟨rfl, rfl⟩⟩
  · simp only [Value.slice.injEq] at hv
    obtain ⟨rfl, rfl, rfl⟩ := hv
    exact ⟨rfl, h1, h2, fun h => (by cases h)⟩
theorem OwnP.obj {B c n : Nat} {w : World} {a : Option Addr} {l : List PD} (h : OwnP B w (.slice a n c) l) (hl : 0 < l.length) : ∃ g cur T, a = some ⟨g, 0, none⟩ ∧ B ≤ g ∧ w.heap[g]? = some (.cells cur T (0, 0)) ∧ ∀ j u, (pdCells l)[j]? = some u → w.cell? ⟨g, j, none⟩ = some u := by
  obtain ⟨-, ⟨h, h0⟩ | ⟨g, cap', cur, hv, hb, hg, h1, h2, h3, h4⟩⟩ := h
  · omega
  · simp only [Value.slice.injEq] at hv
    obtain ⟨rfl, rfl, rfl⟩ := hv
    refine ⟨g, cur, _, rfl, hb, hg, fun j u hu => cell_obj hg ?_⟩
    rw [← h4, List.getElem?_take] at hu
    split at hu
    · simpa using hu
    · cases hu
theorem pdCells_get : ∀ (l : List PD) (i : Nat) (h : i < l.length), (pdCells l)[i * 4]? = some (.int .i64 l[i].tx.mark) ∧ (pdCells l)[i * 4 + 1]? = some (.string (strB l[i].tx.sink)) ∧ (pdCells l)[i * 4 + 2]? = some (.int .i64 l[i].tx.task) ∧ (pdCells l)[i * 4 + 3]? = some l[i].rv
  | x :: l, 0, _ => ⟨rfl, rfl, rfl, rfl⟩
  | x :: l, i + 1, h => by
    have ih := pdCells_get l i (by simpa using h)
    have e : pdCells (x :: l) = .int .i64 x.tx.mark :: .string (strB x.tx.sink) :: .int .i64 x.tx.task :: x.rv :: pdCells l := rfl
    rw [e, show (i + 1) * 4 = i * 4 + 1 + 1 + 1 + 1 by omega]
    exact ih
theorem pdCells_app (l m : List PD) : pdCells (l ++ m) = pdCells l ++ pdCells m := by unfold pdCells; rw [List.flatMap_append]
theorem OwnP.ps {B : Nat} {w : World} {v : Value} {l : List PD} (h : OwnP B w v l) : IsPs w v l := by
  obtain ⟨a, c, rfl⟩ := h.slice
  have hl := h.len
  refine ⟨a, c, rfl, hl.2.1, hl.2.2.1, fun h0 => (hl.2.2.2 h0).2, fun i hi => ?_⟩
  obtain ⟨g, cur, T, rfl, -, -, hc⟩ := h.obj (by omega)
  obtain ⟨h1, h2, h3, h4⟩ := pdCells_get l i hi
  refine ⟨g, 0, rfl, trivial, ?_⟩
  rw [Nat.zero_add]
  exact ⟨hc _ _ h1, hc _ _ h2, hc _ _ h3, hc _ _ h4⟩
/-- the first ones of a slice of one's own. -/
theorem own_cut {B s g n c i : Nat} {e : TypeId} {w : World} {xs : List Value} (h : w.ownsRow B e s (.slice (some ⟨g, 0, none⟩) n c) n xs) (hi : i ≤ n) : w.ownsRow B e s (.slice (some ⟨g, 0, none⟩) i c) i (xs.take (i * s)) := by
  obtain ⟨hl, ⟨h, h0⟩ | ⟨g', cap', cur, hv, hb, hg, h1, h2, h3, h4⟩⟩ := h
  · cases h
  · simp only [Value.slice.injEq, Option.some.injEq, Addr.mk.injEq, and_true, true_and] at hv
    obtain ⟨rfl, rfl⟩ := hv
    have hm : i * s ≤ n * s := Nat.mul_le_mul_right _ hi
    refine ⟨by rw [List.length_take, hl]; omega, .inr ⟨g, c, cur, rfl, hb, hg, by omega, h2, h3, ?_⟩⟩
    rw [← h4, List.take_take, Nat.min_eq_left hm]
def zeroP : Array Value := #[.int .i64 0, .string ⟨#[]⟩, .int .i64 0, .slice none 0 0]
theorem zeroP_ones (n : Nat) : ∀ v ∈ (Builtin.zeroCells zeroP n).toList, v.oneCell' = true := by
  intro v hv
  simp only [Builtin.zeroCells, Array.toList_map, List.mem_map] at hv
  obtain ⟨i, _, rfl⟩ := hv
  have h : zeroP.size = 4 := rfl
  rw [h]
  have h : i % 4 = 0 ∨ i % 4 = 1 ∨ i % 4 = 2 ∨ i % 4 = 3 := by omega
  rcases h with h | h | h | h <;> rw [h] <;> rfl
theorem zeroP_len (n : Nat) : (Builtin.zeroCells zeroP n).toList.length = n * 4 := by simp [Builtin.zeroCells, zeroP]
theorem run_clear_pd {P : Program} {w : World} (t ty e : TypeId) (ht : P.underlying t = some (.slice e)) (hz : ∀ w, (zeroValue e).run P w = .ok (.agg zeroP) w)
    (g off m c : Nat) (hm : 0 < m) (hc : ∀ j, j < m * 4 → (w.cell? ⟨g, off + j, none⟩).isSome = true) (hf : ∀ j, j < m * 4 → w.frozen? ⟨g, off + j, none⟩ = false) :
    (Builtin.clear_ #[t] ty #[.slice (some ⟨g, off, none⟩) m c]).run P w = .ok (.tuple #[]) (w.setCells g off (Builtin.zeroCells zeroP m).toList) := by
  have hst := run_storeCells_cells (P := P) g off (Builtin.zeroCells zeroP m).toList 0 w (by rw [zeroP_len]; simpa using hc) (by rw [zeroP_len]; simpa using hf) (zeroP_ones m)
  simp only [Nat.add_zero] at hst
  obtain ⟨m', rfl⟩ : ∃ m', m = m' + 1 := ⟨m - 1, by omega⟩
  simp [Builtin.clear_, run_underlying ht, hz, Value.cells, hst]
theorem zeroPd (w : World) : (zeroValue 137).run Tryd.prog w = .ok (.agg zeroP) w := by kernel_rfl
def DelPTo (w : World) (B g c : Nat) (l : List PD) (k : Nat) (e : Ending) (w' : World) : Prop :=
  e = .returned (.slice (some ⟨g, 0, none⟩) (l.length - 1) c) ∧ OwnP B w' (.slice (some ⟨g, 0, none⟩) (l.length - 1) c) (l.take k ++ l.drop (k + 1)) ∧ Keeps (fun b => b ≠ g) w w'
set_option maxRecDepth 100000 in
set_option maxHeartbeats 2000000 in
theorem delete_pd (B g c : Nat) (l : List PD) (h1 : OneP l) (w : World) (h : OwnP B w (.slice (some ⟨g, 0, none⟩) l.length c) l) (k : Nat) (hk : k < l.length) :
    Calls Tryd.prog 104 #[.slice (some ⟨g, 0, none⟩) l.length c, .int .i64 k, .int .i64 ((k + 1 : Nat) : Int)] w (DelPTo w B g c l k) := by
  have HO := hid h; have H1 := hid h1; have HK := hid hk
  have hlc := h.len
  have hc : l.length ≤ c := hlc.2.1
  have hcm : c ≤ 9223372036854775807 := by have := hlc.2.2.1; unfold maxLen at this; omega
  obtain ⟨n, hn⟩ : ∃ n, n = l.length := ⟨_, rfl⟩
  have HN := hid hn
  rw [← hn] at HO hk hc ⊢
  have HOW : Hid (w.ownsRow B 137 4 (.slice (some ⟨g, 0, none⟩) n c) n (pdCells l)) := hid (by have h := HO.out; unfold OwnP at h; rw [← HN.out] at h; exact h)
  obtain ⟨j, hj⟩ : ∃ j, j = k + 1 := ⟨_, rfl⟩
  have HJ := hid hj
  rw [← hj]
  have hkj : ¬ (k : Int) = j := by omega
  have hkj2 : k ≤ j := by omega
  have hjn : j ≤ n := by omega
  have hjc : j ≤ c := by omega
  have hkc : k ≤ c := by omega
  clear h h1 hlc hn hj
  go_enter Tryd.func104, Tryd.ntmps104
  go_upto_region 5 with (fail)
  obtain ⟨z, hz⟩ : ∃ z : Addr, z = if c = j then ⟨g, 0, none⟩ else ⟨g, j * 4, none⟩ := ⟨_, rfl⟩
  have HS : Hid (∀ w : World, (Go.Instr.slice 130 (.slice (some ⟨g, 0, none⟩) n c) (some (.int .i64 (j : Int))) none none).run Tryd.prog w = .ok (.slice (some z) (n - j) (c - j)) w) := hid fun w => by
    rw [hz]
    by_cases hcj : c = j
    · subst hcj
      rw [if_pos rfl]
      go_simp
    · rw [if_neg hcj]
      go_simp
  have HNW : Hid (∀ i u, ((pdCells l).drop (j * 4))[i]? = some u → w.cell? (z.add i) = some u) := hid (by
    intro i u hu
    rw [List.getElem?_drop] at hu
    have hlt := (List.getElem?_eq_some_iff.1 hu).1
    rw [pdCells_length, ← HN.out] at hlt
    have hcj : ¬ c = j := by omega
    rw [hz, if_neg hcj, add_none rfl]
    have h := (HO.out.cells (g := g) rfl) _ _ hu
    rw [add_none rfl] at h
    simpa using h)
  clear hz
  refine wp_region_plan (by kernel_rfl) (by kernel_rfl) [] [6, 7] (by kernel_rfl) (fun _ _ d _ _ h => by cases d <;> exact h) (Later) (Later.refl) (Later.trans) (fun _ => none) (fun _ _ _ _ _ h => by cases h) ?_
  simp only [body, tail, numbered, Nat.reduceAdd, List.filter_cons, List.filter_nil, List.contains_cons, List.contains_nil, Nat.reduceBEq, Bool.or_false, Bool.or_true, Bool.false_or, Bool.true_or, Bool.not_true, Bool.not_false, Bool.and_true, Bool.and_false, Bool.true_and, Bool.false_and, if_true, if_false, reduceIte, Bool.false_eq_true, List.map_cons, List.map_nil]
  simp only [Pures]
  refine LexS.out ?_
  iterate 5
    first
    | (refine LexS.skip rfl ?_; simp only [Act.put, List.setIfInBounds_toArray, List.set])
    | (refine LexS.one' rfl rfl ?_
       apply Exists.intro
       refine ⟨fun w hR hF => ?_, ?_⟩
       · have hP := hR
         repeat (first | replace hP := Later.of_drew hP | replace hP := Later.of_drewN hP | replace hP := Later.of_alloc hP)
         have hcs := hR.cells
         clear hR hF hP
         go_simp
         first | done | rfl
       simp only [Act.put, List.setIfInBounds_toArray, List.set])
  iterate 1
    first
    | (refine LexS.skip rfl ?_; simp only [Act.put, List.setIfInBounds_toArray, List.set])
    | (refine LexS.one' rfl rfl ?_
       apply Exists.intro
       refine ⟨fun w hR hF => ?_, ?_⟩
       · have hP := hR
         repeat (first | replace hP := Later.of_drew hP | replace hP := Later.of_drewN hP | replace hP := Later.of_alloc hP)
         have hcs := hR.cells
         have zr0 := HS.out w
         clear hR hF hP
         go_simp
         first | done | rfl
       simp only [Act.put, List.setIfInBounds_toArray, List.set])
  refine LexS.nil ?_
  intro w1 hR1 hF9
  clear hF9
  repeat (first | replace hR1 := Later.of_drew hR1 | replace hR1 := Later.of_drewN hR1 | replace hR1 := Later.of_alloc hR1)
  have HL1 := hid hR1
  obtain ⟨i0, z0, hi0, hz0, hz1, hz2, -, -⟩ := pdElem.ex
  have HI0 := hid hi0; have HZ1 := hid hz1
  have HCUT : Hid (w1.ownsRow B 137 4 (.slice (some ⟨g, 0, none⟩) k c) k ((pdCells l).take (k * 4))) := hid (own_cut (owns_at HOW.out hR1) (by omega))
  clear hR1 hi0 hz0 hz1 hz2 HS
  change wpList _ _ _ _ _ _
  refine wpList_append_fits _ rfl _ _ 130 rfl B 137 i0 4 Tryd.underlying130 HI0.out HZ1.out g k c _ rfl HCUT.out z (n - j) (c - j) ((pdCells l).drop (j * 4)) rfl ?a1 ?a2 ?a3 ?a4 ?_
  case a1 => rw [List.length_drop, pdCells_length, ← HN.out]; omega
  case a2 => exact fun i u hu => HL1.out.cell (HNW.out i u hu)
  case a3 => exact fun v hv => pdCells_ones H1.out v (List.mem_of_mem_drop hv)
  case a4 => omega
  intro w2 ho2 hg2
  obtain ⟨n1, hn1⟩ : ∃ n1, n1 = k + (n - j) := ⟨_, rfl⟩
  have HN1 : Hid (n1 + 1 = n) := hid (by rw [hn1]; have := HJ.out; omega)
  have HK2 : Hid (Keeps (fun b => b ≠ g) w w2) := hid ((HL1.out.keeps _).trans ((Keeps.of_grown hg2).mono fun b _ hb e => hb (Option.some.inj e)))
  rw [← hn1] at ho2 ⊢
  have HL : Hid ((l.take k ++ l.drop j).length = n1) := hid (by rw [List.length_append, List.length_take, List.length_drop, ← HN.out]; have := HN1.out; omega)
  have HO2 : Hid (OwnP B w2 (.slice (some ⟨g, 0, none⟩) n1 c) (l.take k ++ l.drop j)) := hid (by
    have e : pdCells (l.take k ++ l.drop j) = (pdCells l).take (k * 4) ++ (pdCells l).drop (j * 4) := by rw [pdCells_app, pdCells_take, pdCells_drop]
    unfold OwnP
    rw [HL.out, e]
    exact ho2)
  obtain ⟨cur, T, hcs, hcl⟩ : ∃ cur T, w2.heap[g]? = some (.cells cur T (0, 0)) ∧ c * 4 ≤ cur.size := by
    rcases ho2.2 with ⟨h, -⟩ | ⟨g', cap, cur, hv, -, hg, -, -, h3, -⟩
    · cases h
    · simp only [Value.slice.injEq, Option.some.injEq, Addr.mk.injEq, and_true, true_and] at hv
      obtain ⟨rfl, rfl⟩ := hv
      exact ⟨cur, _, hg, Nat.le_of_eq h3.symm⟩
  have hcn : ¬ c - n1 = 0 := by have := HN1.out; omega
  have hcn2 : ¬ c ≤ n1 := by have := HN1.out; omega
  have hcn3 : ¬ c = n1 := by have := HN1.out; omega
  have hn1n : n1 ≤ n := by have := HN1.out; omega
  have hn1c : n1 ≤ c := by omega
  have HCL : Hid (∀ W : World, W = w2 → (Builtin.clear_ #[130] 0 #[.slice (some ⟨g, n1 * 4, none⟩) (n - n1) (c - n1)]).run Tryd.prog W = .ok (.tuple #[]) (W.setCells g (n1 * 4) (Builtin.zeroCells zeroP (n - n1)).toList)) := hid (by
    intro W hW
    subst hW
    refine run_clear_pd 130 0 137 Tryd.underlying130 zeroPd g (n1 * 4) (n - n1) (c - n1) (by have := HN1.out; omega) (fun q hq => ?_) (fun q _ => free_obj hcs)
    have hlt : n1 * 4 + q < cur.size := by omega
    rw [cell_obj hcs (Array.getElem?_eq_getElem hlt)]
    rfl)
  have hcl2 := HCL.out w2 rfl
  clear ho2 hg2 hn1 hcs hcl HCUT HL1 hkj hkj2 hjn hjc hkc HNW
  go_upto_region 7 with (fail)
  obtain ⟨vs, hvs⟩ : ∃ vs, vs = (Builtin.zeroCells zeroP (n - n1)).toList := ⟨_, rfl⟩
  obtain ⟨w3, hw3⟩ : ∃ w3, w3 = w2.setCells g (n1 * 4) vs := ⟨_, rfl⟩
  rw [← hvs, ← hw3]
  have HO3 : Hid (OwnP B w3 (.slice (some ⟨g, 0, none⟩) n1 c) (l.take k ++ l.drop j)) := hid (by
    rw [hw3]
    unfold OwnP
    have h := HO2.out
    unfold OwnP at h
    rw [HL.out] at h ⊢
    exact owns_cells vs (n1 * 4) w2 (Nat.le_refl _) h)
  have HK3 : Hid (Keeps (fun b => b ≠ g) w w3) := hid (by rw [hw3]; exact HK2.out.trans (keeps_cells vs (n1 * 4) w2))
  clear hw3 hvs hcl2 HCL HK2 HO2
  go_wp2_with fail
  go_ret
  have hnn : n - 1 = n1 := by have := HN1.out; omega
  refine ⟨by rw [← HN.out, hnn]; rfl, ?_, HK3.out⟩
  rw [← HN.out, hnn, ← HJ.out]
  exact HO3.out
end Go.Proofs.YtcmpjdnbjhkhdaaDoor
