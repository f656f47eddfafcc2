/-
  PROVED HERE: the contracts of slices.Clone, slices.IndexFunc and slices.DeleteFunc at windows.
-/
import Derived.Test.YthfgjmdmcoogpaaWinFns
import Derived.Laws.IdiomCopy
import Derived.WalkSpells
import Derived.Deep.RegionLaw
namespace Go.Proofs.Ythfgjmdmcoogpaa
set_option linter.unusedSimpArgs false
set_option linter.unusedVariables false
open Go.RowKit

def OwnTo (w : World) (l : List Win) (e : Ending) (w' : World) : Prop := ∃ v, e = .returned v ∧ OwnW w.heap.size w' v l ∧ Later w w'
theorem wins_at {S : Nat → Prop} {w : World} {a : Addr} {l : List Win} (h : Elems S WinAt 2 w (some a) l) : ∀ j u, (winCells l)[j]? = some u → w.cell? (a.add j) = some u := by
  intro j u hu
  have hj : j < l.length * 2 := by rw [← winCells_length]; exact (List.getElem?_eq_some_iff.1 hu).1
  obtain ⟨b, o, ha, _, h1, h2⟩ := h (j / 2) (by omega)
  cases ha
  obtain ⟨q1, q2⟩ := winCells_at l (j / 2) (by omega)
  rw [add_none rfl]
  rcases (by omega : j = j / 2 * 2 ∨ j = j / 2 * 2 + 1) with e | e
  · rw [e] at hu; rw [q1] at hu; cases hu
    simpa [← e] using h1
  · rw [e] at hu; rw [q2] at hu; cases hu
    rw [Nat.add_assoc, ← e] at h2
    simpa using h2
theorem clone_wins (l : List Win) (v : Value) (w : World) (hv : WinsIn (fun _ => True) w v l) (hl : l.length * 16 ≤ 140737488355328) :
    Calls Try.prog 18 #[v] w (OwnTo w l) := by
  obtain ⟨p, c, rfl, hac, hcm, hnil, hea⟩ := hv
  have hcap : c ≤ 9223372036854775807 := by unfold maxLen at hcm; omega
  cases p with
  | none =>
    obtain rfl : c = 0 := hnil rfl
    have hl0 : l.length = 0 := by omega
    have hl1 : l = [] := List.eq_nil_of_length_eq_zero hl0
    subst hl1
    clear hnil hl0 hac hcm hcap hea hl
    have he := fun (w : World) => Lib.run_eql_slice_nil (P := Try.prog) w 22 24 none 0 0 0 0 Try.underlying22
    go_enter Try.func18, Try.ntmps18
    go_wp2
    go_ret
    exact ⟨_, rfl, OwnW.nil _ _, Later.refl _⟩
  | some a =>
    obtain ⟨i0, hi, hz0, hz1, hz2⟩ := info_parts infoWin
    have hown := World.ownsRow_lit (base := w.heap.size) (e := 24) (size := 2) w #[] 0 (Nat.le_refl _) (by unfold maxLen; omega) rfl
    have hnews : ∀ j u, (winCells l)[j]? = some u → (w.alloc (.cells #[] 24)).cell? (a.add j) = some u := fun j u h => (Later.alloc w _).cell (wins_at hea j u h)
    have HO := hid hown; have HN := hid hnews; have HL := hid hl; have HI := hid hi
    clear hown hnews hnil hea hcap hcm hl hi
    have he := fun (w : World) => Lib.run_eql_slice_nil (P := Try.prog) w 22 24 (some a) l.length c 0 0 Try.underlying22
    go_enter Try.func18, Try.ntmps18
    go_wp2_with (at_builtin; refine wpList_append_own _ rfl _ _ 22 rfl w.heap.size 24 i0 _ 2 16 Try.underlying22 HI.out hz0 hz1 hz2 rfl (by decide) _ _ _ rfl HO.out a l.length c (winCells l) rfl (winCells_length l) HN.out (win_ones l) ?c1 ?c2 ?c3 ?_)
    case c1 => have := HL.out; unfold maxLen; omega
    case c2 => have := HL.out; omega
    intro v' w1 hown1 hgrow1 hnil1
    go_wp2
    go_ret
    refine ⟨_, rfl, by simpa using hown1, ?_⟩
    have hb := (Below.refl w.heap.size w).alloc (Nat.le_refl _) (.cells #[] 24)
    exact hb.grown hgrow1 (by simp) (fun k hk => by simp [Value.ownBlock] at hk; omega)

def IdxTo (w : World) (l : List Win) (e : Ending) (w' : World) : Prop :=
  Later w w' ∧ ((e = .returned (.int .i64 (-1)) ∧ ∀ j (h : j < l.length), keepW l[j] = true) ∨ ∃ (i : Nat) (h : i < l.length), e = .returned (.int .i64 i) ∧ keepW l[i] = false ∧ ∀ j (h : j < i), keepW l[j] = true)
set_option maxRecDepth 100000 in
set_option maxHeartbeats 2000000 in
theorem idx_wins (l : List Win) (v : Value) (w : World) (hv : WinsIn (fun _ => True) w v l) :
    Calls Try.prog 33 #[v, .func (.func 20) #[] #[]] w (IdxTo w l) := by
  obtain ⟨p, c, rfl, hac, hcm, -, hea⟩ := hv
  unfold maxLen at hcm
  have HE := hid hea; have HB := hid (And.intro hac hcm)
  clear hea hac hcm
  go_enter Try.func33, Try.ntmps33
  go_wp2_with fail
  obtain ⟨R1, hR1⟩ : ∃ RR_ : (Nat → Value) → World → Prop, RR_ = (fun us wx => ∃ k : Nat, us 8 = .int .i64 k ∧ k ≤ l.length ∧ Later w wx ∧ ∀ j (h : j < l.length), j < k → keepW l[j] = true) := ⟨_, rfl⟩
  obtain ⟨mu1, hmu1⟩ : ∃ mu : (Nat → Value) → World → Nat, mu = (fun us _ => l.length - (intOf (us 8)).toNat) := ⟨_, rfl⟩
  have HR1 := hid hR1; have Hmu1 := hid hmu1; clear hR1 hmu1
  refine wp_loop_frame' [false, false, false, false, true, true, false, false, true, true, true, true, true, true, true, true, true, true, true] R1 _ mu1 HR1.out ?_ ?_
  · exact ⟨0, rfl, Nat.zero_le _, Later.refl _, fun j h h0 => by omega⟩
  intro us1 wx hrel
  obtain ⟨k, h8, hk, hL, hall⟩ := hrel
  simp only [frameOf, Nat.reduceAdd, h8]
  have Hh8 := hid h8; clear h8
  have HL := hid hL; have HK := hid hk; have HA := hid hall
  clear hL hk hall
  by_cases hlt : k < l.length
  · have HLT := hid hlt
    obtain ⟨b, o, rfl, -, p1, p2⟩ := HE.out k hlt
    replace p1 := HL.out.cell p1
    replace p2 := HL.out.cell p2
    have HWK : Hid (wrap64 ((k : Int) + 1) = ((k + 1 : Nat) : Int)) := hid (by have := HLT.out; have := HB.out; unfold wrap64; omega)
    generalize hx : l[k] = x at p1 p2
    have HX := hid hx
    clear hx
    obtain ⟨x1, x2⟩ := x
    simp only at p1 p2
    have hlk : keepW l[k] = keepW (x1, x2) := congrArg keepW HX.out
    have HLK := hid hlk
    clear hlk
    go_wp2_with fail
    refine (del_any (x1, x2) _).mono ?_
    rintro e w1 ⟨rfl, hL1⟩
    have HL1 := hid (Later.trans _ _ _ HL.out hL1)
    clear hL1 HL
    cases hb : keepW (x1, x2) with
    | false =>
      have HBB := hid (HLK.out.trans hb)
      clear hb p1 p2
      go_wp2_with fail
      go_ret
      exact ⟨HL1.out, .inr ⟨k, hlt, rfl, HBB.out, fun j h => HA.out j (by omega) h⟩⟩
    | true =>
      have HBB := hid (HLK.out.trans hb)
      clear hb p1 p2
      go_wp2_with fail
      try simp only [HWK.out]
      refine Round.mk' HR1.out Hmu1.out rfl ?_ ?_
      · refine ⟨k + 1, rfl, HLT.out, HL1.out, fun j h hj => ?_⟩
        by_cases hjk : j = k
        · subst hjk; exact HBB.out
        · exact HA.out j h (by omega)
      · rw [Hh8.out]; have := HLT.out; simp [intOf, slots]; omega
  · go_wp2_with fail
    go_ret
    exact ⟨HL.out, .inl ⟨rfl, fun j h => HA.out j h (by omega)⟩⟩

/-- cells written behind what a slice holds leave it as it was. -/
theorem own_cells {B s : Nat} {e : TypeId} {n c g : Nat} {xs : List Value} : ∀ (vs : List Value) (o : Nat) (w : World), n * s ≤ o → w.ownsRow B e s (.slice (some ⟨g, 0, none⟩) n c) n xs → (w.setCells g o vs).ownsRow B e s (.slice (some ⟨g, 0, none⟩) n c) n xs
  | [], _, _, _, h => h
  | v :: r, o, w, ho, h => by
    have h1 := owns_put (i := o) h v
    rw [List.set_eq_of_length_le (by rw [h.1]; exact ho)] at h1
    exact own_cells r (o + 1) _ (by omega) h1
theorem keep_cells {g : Nat} : ∀ (vs : List Value) (o : Nat) (w : World), Keeps (fun b => b ≠ g) w (w.setCells g o vs)
  | [], _, w => Keeps.refl _ _
  | v :: r, o, w => ((Keeps.refl (fun b => b ≠ g) w).setCell (p := ⟨g, o, none⟩) (.inl fun h => h rfl) v).trans (keep_cells r (o + 1) _)
/-- the first ones of a slice of one's own. -/
theorem OwnW.cut {B n c g i : Nat} {w : World} {l : List Win} (h : OwnW B w (.slice (some ⟨g, 0, none⟩) n c) l) (hi : i ≤ l.length) : OwnW B w (.slice (some ⟨g, 0, none⟩) i c) (l.take i) := by
  obtain ⟨hl, ⟨h, h0⟩ | ⟨g', cap', cur, hv, hb, hg, h1, h2, h3, h4⟩⟩ := h
  · cases h
  · simp only [Value.slice.injEq, Option.some.injEq, Addr.mk.injEq, and_true] at hv
    obtain ⟨rfl, rfl, rfl⟩ := hv
    have e : (l.take i).length = i := by rw [List.length_take]; omega
    refine ⟨by rw [winCells_length], .inr ⟨g, c, cur, by rw [e], hb, hg, by rw [e]; omega, h2, h3, ?_⟩⟩
    rw [e, winCells_take, ← h4, List.take_take, Nat.min_eq_left (by omega)]
theorem zero_ones (n : Nat) : ∀ v ∈ (Builtin.zeroCells #[.int .i64 0, .int .i64 0] n).toList, v.oneCell' = true := by
  intro v hv
  simp only [Builtin.zeroCells, Array.toList_map, List.mem_map] at hv
  obtain ⟨i, _, rfl⟩ := hv
  rcases (by show i % 2 = 0 ∨ i % 2 = 1; omega : i % 2 = 0 ∨ i % 2 = 1) with h | h
  · show (#[Value.int .i64 0, .int .i64 0][i % 2]!).oneCell' = true; rw [h]; rfl
  · show (#[Value.int .i64 0, .int .i64 0][i % 2]!).oneCell' = true; rw [h]; rfl
theorem zero_len (n : Nat) : (Builtin.zeroCells #[.int .i64 0, .int .i64 0] n).toList.length = n * 2 := by simp [Builtin.zeroCells]
theorem run_clear_win {P : Program} {w : World} (t ty e : TypeId) (ht : P.underlying t = some (.slice e)) (hz : ∀ w, (zeroValue e).run P w = .ok (.agg #[.int .i64 0, .int .i64 0]) w)
    (g off m c : Nat) (hm : 0 < m) (hc : ∀ j, j < m * 2 → (w.cell? ⟨g, off + j, none⟩).isSome = true) (hf : ∀ j, j < m * 2 → w.frozen? ⟨g, off + j, none⟩ = false) :
    (Builtin.clear_ #[t] ty #[.slice (some ⟨g, off, none⟩) m c]).run P w = .ok (.tuple #[]) (w.setCells g off (Builtin.zeroCells #[.int .i64 0, .int .i64 0] m).toList) := by
  have hst := run_storeCells_cells (P := P) g off (Builtin.zeroCells #[.int .i64 0, .int .i64 0] m).toList 0 w (by rw [zero_len]; simpa using hc) (by rw [zero_len]; simpa using hf) (zero_ones m)
  simp only [Nat.add_zero] at hst
  obtain ⟨m', rfl⟩ : ∃ m', m = m' + 1 := ⟨m - 1, by omega⟩
  simp [Builtin.clear_, run_underlying ht, hz, Value.cells, hst]
end Go.Proofs.Ythfgjmdmcoogpaa
