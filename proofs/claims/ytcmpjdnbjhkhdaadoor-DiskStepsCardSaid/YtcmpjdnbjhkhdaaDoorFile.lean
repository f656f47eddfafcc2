/-
  PROVED HERE: a list of files in memory; the contracts of the law's find and without.
-/
import Derived.Test.YtcmpjdnbjhkhdaaDoorStrOwn
import Derived.Test.YtcmpjdnbjhkhdaaDoorAppX
import Derived.Test.YtcmpjdnbjhkhdaaDoorFrame
namespace Go.Proofs.YtcmpjdnbjhkhdaaDoor
set_option linter.unusedSimpArgs false
set_option linter.unusedVariables false
open Go.RowKit

/-- a file of the law's list: its name, the slice of its bytes, the bytes, whether it can be lost. -/
structure FE where
  name : List UInt8
  dv : Value
  data : List UInt8
  loose : Bool
def FE.cells (x : FE) : List Value := [.string (strB x.name), x.dv, .bool x.loose]
def fileCells (l : List FE) : List Value := l.flatMap FE.cells
theorem fileCells_length (l : List FE) : (fileCells l).length = l.length * 3 := by
  induction l with
  | nil => rfl
  | cons x l ih => simp only [fileCells, List.flatMap_cons, List.length_append, FE.cells, List.length_cons, List.length_nil] at ih ⊢; omega
theorem fileCells_app (l m : List FE) : fileCells (l ++ m) = fileCells l ++ fileCells m := by unfold fileCells; rw [List.flatMap_append]
theorem fileCells_get : ∀ (l : List FE) (i : Nat) (h : i < l.length), (fileCells l)[i * 3]? = some (.string (strB l[i].name)) ∧ (fileCells l)[i * 3 + 1]? = some l[i].dv ∧ (fileCells l)[i * 3 + 2]? = some (.bool l[i].loose)
  | x :: l, 0, _ => ⟨rfl, rfl, rfl⟩
  | x :: l, i + 1, h => by
    have ih := fileCells_get l i (by simpa using h)
    have e : fileCells (x :: l) = .string (strB x.name) :: x.dv :: .bool x.loose :: fileCells l := rfl
    rw [e, show (i + 1) * 3 = i * 3 + 1 + 1 + 1 by omega]
    exact ih
def OwnF (B : Nat) (w : World) (v : Value) (l : List FE) : Prop := w.ownsRow B 51 3 v l.length (fileCells l)
theorem OwnF.nil (B : Nat) (w : World) : OwnF B w (.slice none 0 0) [] := ⟨rfl, .inl ⟨rfl, rfl⟩⟩
theorem OwnF.slice {B : Nat} {w : World} {v : Value} {l : List FE} (h : OwnF B w v l) : ∃ a c, v = .slice a l.length c := by
  rcases h.2 with ⟨rfl, h0⟩ | ⟨g, cap, cur, rfl, _⟩
  · exact ⟨none, 0, by rw [h0]⟩
  · exact ⟨_, _, rfl⟩
theorem OwnF.later {B : Nat} {w w' : World} {v : Value} {l : List FE} (h : OwnF B w v l) (k : Later w w') : OwnF B w' v l := owns_at h k
theorem OwnF.keep {S : Nat → Prop} {B : Nat} {w w' : World} {v : Value} {l : List FE} (h : OwnF B w v l) (k : Keeps S w w') (hs : ∀ g, v.ownBlock = some g → S g) : OwnF B w' v l := owns_keep h k hs
theorem OwnF.len {B c n : Nat} {w : World} {a : Option Addr} {l : List FE} (h : OwnF B w (.slice a n c) l) : n = l.length ∧ n ≤ c ∧ c ≤ maxLen ∧ (a = none → n = 0 ∧ c = 0) := by
  obtain ⟨hl, ⟨h, h0⟩ | ⟨g, cap', cur, hv, hb, hg, h1, h2, h3, h4⟩⟩ := h
  · simp only [Value.slice.injEq] at h
    obtain ⟨rfl, rfl, rfl⟩ := h
    exact ⟨h0.symm, Nat.le_refl _, by unfold maxLen; omega, fun _ => ⟨rfl, rfl⟩⟩
  · simp only [Value.slice.injEq] at hv
    obtain ⟨rfl, rfl, rfl⟩ := hv
    exact ⟨rfl, h1, h2, fun h => (by cases h)⟩
theorem OwnF.obj {B c n : Nat} {w : World} {a : Option Addr} {l : List FE} (h : OwnF B w (.slice a n c) l) (hl : 0 < l.length) : ∃ g cur T, a = some ⟨g, 0, none⟩ ∧ B ≤ g ∧ w.heap[g]? = some (.cells cur T (0, 0)) ∧ ∀ j u, (fileCells l)[j]? = some u → w.cell? ⟨g, j, none⟩ = some u := by
  obtain ⟨-, ⟨h, h0⟩ | ⟨g, cap', cur, hv, hb, hg, h1, h2, h3, h4⟩⟩ := h
  · omega
  · simp only [Value.slice.injEq] at hv
    obtain ⟨rfl, rfl, rfl⟩ := hv
    refine ⟨g, cur, _, rfl, hb, hg, fun j u hu => cell_obj hg ?_⟩
    rw [← h4, List.getElem?_take] at hu
    split at hu
    · simpa using hu
    · cases hu
theorem OwnF.at {B c n i : Nat} {w : World} {a : Option Addr} {l : List FE} (h : OwnF B w (.slice a n c) l) (hi : i < l.length) : ∃ g, a = some ⟨g, 0, none⟩ ∧ B ≤ g ∧ w.cell? ⟨g, i * 3, none⟩ = some (.string (strB l[i].name)) ∧ w.cell? ⟨g, i * 3 + 1, none⟩ = some l[i].dv ∧ w.cell? ⟨g, i * 3 + 2, none⟩ = some (.bool l[i].loose) ∧ ∀ j, w.frozen? ⟨g, j, none⟩ = false := by
  obtain ⟨g, cur, T, rfl, hb, hg, hc⟩ := h.obj (by omega)
  obtain ⟨h1, h2, h3⟩ := fileCells_get l i hi
  exact ⟨g, rfl, hb, hc _ _ h1, hc _ _ h2, hc _ _ h3, fun j => free_obj hg⟩
def FindTo (k : List UInt8) (l : List FE) (w : World) (e : Ending) (w' : World) : Prop :=
  w' = w ∧ ((e = .returned (.int .i64 (-1)) ∧ ∀ x ∈ l, x.name ≠ k) ∨ ∃ (i : Nat) (h : i < l.length), e = .returned (.int .i64 i) ∧ l[i].name = k ∧ ∀ j (h : j < i), l[j].name ≠ k)
set_option maxRecDepth 100000 in
set_option maxHeartbeats 2000000 in
theorem find_any {B : Nat} {w : World} {v : Value} {l : List FE} (ho : OwnF B w v l) (k : List UInt8) : Calls Tryd.prog 17 #[v, .string (strB k)] w (FindTo k l w) := by
  obtain ⟨a, c, rfl⟩ := ho.slice
  have HO := hid ho
  have HC := hid ho.len
  clear ho
  go_enter Tryd.func17, Tryd.ntmps17
  go_wp2_with fail
  obtain ⟨R1, hR1⟩ : ∃ RR_ : (Nat → Value) → World → Prop, RR_ = (fun us wx => ∃ i : Nat, us 5 = .int .i64 i ∧ i ≤ l.length ∧ wx = w ∧ ∀ j (h : j < l.length), j < i → l[j].name ≠ k) := ⟨_, rfl⟩
  obtain ⟨mu1, hmu1⟩ : ∃ mu : (Nat → Value) → World → Nat, mu = (fun us _ => l.length - (intOf (us 5)).toNat) := ⟨_, rfl⟩
  have HR1 := hid hR1; have Hmu1 := hid hmu1; clear hR1 hmu1
  refine wp_loop_frame' [false, false, false, false, true, true, true, true, true, true, true, true, true, true, true, true, true, true, true, true] R1 _ mu1 HR1.out ?_ ?_
  · exact ⟨0, rfl, Nat.zero_le _, rfl, fun j h h0 => by omega⟩
  intro us1 wx hrel
  obtain ⟨i, h5, hi, rfl, hall⟩ := hrel
  simp only [frameOf, Nat.reduceAdd, h5]
  have Hh5 := hid h5; clear h5
  have HA := hid hall; have HI := hid hi
  clear hall hi
  by_cases hlt : i < l.length
  · obtain ⟨g, rfl, -, p1, -, -, -⟩ := HO.out.at hlt
    have hg := cell_lt p1
    have hwi : wrap64 ((i : Int) + 1) = ((i + 1 : Nat) : Int) := by have h1 := HC.out.2.1; have h2 := HC.out.2.2.1; unfold maxLen at h2; unfold wrap64; omega
    have HW := hid hwi
    obtain ⟨y, hy⟩ : ∃ y, y = (l[i]'hlt).name := ⟨_, rfl⟩
    have HY := hid hy
    rw [← hy] at p1
    clear hwi hy
    by_cases he : y = k
    · have hst := str_eq he
      have HE := hid he
      clear he
      go_wp2_with fail
      go_ret
      exact ⟨rfl, .inr ⟨i, hlt, rfl, by rw [← HY.out]; exact HE.out, fun j h => HA.out j (by omega) h⟩⟩
    · have hst := str_ne he
      have HE := hid he
      clear he
      go_wp2_with fail
      try simp only [HW.out]
      refine Round.mk' HR1.out Hmu1.out rfl ?_ ?_
      · refine ⟨i + 1, rfl, hlt, rfl, fun j h hj => ?_⟩
        by_cases hji : j = i
        · subst hji; rw [← HY.out]; exact HE.out
        · exact HA.out j h (by omega)
      · rw [Hh5.out]; simp [intOf, slots]; omega
  · go_wp2_with fail
    go_ret
    exact ⟨rfl, .inl ⟨rfl, fun x hx => by
      obtain ⟨j, hj, rfl⟩ := List.getElem_of_mem hx
      exact HA.out j hj (by omega)⟩⟩

def FileAt (w : World) (b o : Nat) (x : FE) : Prop := w.cell? ⟨b, o, none⟩ = some (.string (strB x.name)) ∧ w.cell? ⟨b, o + 1, none⟩ = some x.dv ∧ w.cell? ⟨b, o + 2, none⟩ = some (.bool x.loose)
abbrev IsFiles (w : World) (v : Value) (l : List FE) : Prop := SliceOf All FileAt 3 w v l
theorem FileAt.later {w w' : World} {b o : Nat} {x : FE} (h : FileAt w b o x) (k : Later w w') : FileAt w' b o x := ⟨k.cell h.1, k.cell h.2.1, k.cell h.2.2⟩
theorem IsFiles.later {w w' : World} {v : Value} {l : List FE} (h : IsFiles w v l) (k : Later w w') : IsFiles w' v l := h.map fun _ _ _ hb hx => ⟨hb, hx.later k⟩
theorem owned_files {w : World} {B : Nat} {v : Value} {l : List FE} (h : OwnF B w v l) : IsFiles w v l := by
  obtain ⟨a, c, rfl⟩ := h.slice
  have hl := h.len
  refine ⟨a, c, rfl, hl.2.1, hl.2.2.1, fun h0 => (hl.2.2.2 h0).2, fun i hi => ?_⟩
  obtain ⟨g, rfl, -, p1, p2, p3, -⟩ := h.at hi
  refine ⟨g, 0, rfl, trivial, ?_⟩
  rw [Nat.zero_add]
  exact ⟨p1, p2, p3⟩
theorem fileCells_at {S : Nat → Prop} {w : World} {a : Addr} {l : List FE} (h : Elems S FileAt 3 w (some a) l) : ∀ j u, (fileCells l)[j]? = some u → w.cell? (a.add j) = some u := by
  intro j u hu
  have hj : j < l.length * 3 := by
    rw [← fileCells_length]; exact (List.getElem?_eq_some_iff.1 hu).1
  obtain ⟨b, o, ha, _, h1, h2, h3⟩ := h (j / 3) (by omega)
  cases ha
  obtain ⟨q1, q2, q3⟩ := fileCells_get l (j / 3) (by omega)
  rw [add_none rfl]
  rcases (by omega : j = j / 3 * 3 ∨ j = j / 3 * 3 + 1 ∨ j = j / 3 * 3 + 2) with e | e | e
  · rw [e] at hu; rw [q1] at hu; cases hu
    simpa [← e] using h1
  · rw [e] at hu; rw [q2] at hu; cases hu
    rw [Nat.add_assoc, ← e] at h2
    simpa using h2
  · rw [e] at hu; rw [q3] at hu; cases hu
    rw [Nat.add_assoc, ← e] at h3
    simpa using h3
theorem infoFile : (Tryd.prog.info? 51).map (fun i => (i.zero, i.size, i.bytes)) = some (some (.agg #[.string ⟨#[]⟩, .slice none 0 0, .bool false]), 3, 48) := by kernel_rfl
/-- each of them is one cell. -/
def OneF (l : List FE) : Prop := ∀ x ∈ l, x.dv.oneCell' = true
theorem fileCells_ones {l : List FE} (h : OneF l) : ∀ u ∈ fileCells l, u.oneCell' = true := by
  intro u hu
  obtain ⟨y, hy, hu⟩ := List.mem_flatMap.1 hu
  simp only [FE.cells, List.mem_cons, List.not_mem_nil, or_false] at hu
  rcases hu with rfl | rfl | rfl
  · rfl
  · exact h y hy
  · rfl
theorem wpList_append_files {w : World} {ops : Array Oper} {rest : List Oper} {o : Oper} {a : Act} {Q : Exit → Act → World → Prop} (hgd : o.guard = none) (s x : Operand)
    (ho : o.op = .call { callee := .builtin .append, args := #[s, x], argTypes := #[44, 44] })
    (base : Nat) (v u : Value) (xs m : List FE) (hs : a.eval s = v) (hown : OwnF base w v xs) (hx : a.eval x = u) (hu : IsFiles w u m) (h1 : OneF m)
    (hbytes : (xs.length + m.length) * 48 ≤ 140737488355328) (hbase : base ≤ w.heap.size)
    (h : ∀ v' w', OwnF base w' v' (xs ++ m) → Keeps (fun b => b < base) w w' → wpList Tryd.prog ops Q rest (a.put o.dst v') w') : wpList Tryd.prog ops Q (o :: rest) a w := by
  obtain ⟨i0, hi, hz0, hz1, hz2⟩ := info_parts infoFile
  obtain ⟨p, c, rfl, hlc, hcm, hnil, he⟩ := hu
  cases p with
  | none =>
    obtain rfl : c = 0 := hnil rfl
    have hm : m = [] := List.eq_nil_of_length_eq_zero (by omega)
    subst hm
    refine wpList_append_nil w hgd s x _ ho base 51 i0 3 Tryd.underlying44 hi v _ _ hs hown hx (h v w ?_ (Keeps.refl _ _))
    rw [List.append_nil]; exact hown
  | some ad =>
    refine wpList_append w hgd s x _ ho base 51 i0 _ 3 48 Tryd.underlying44 hi hz0 hz1 hz2 rfl (by decide) v _ _ hs hown ad m.length c (fileCells m) hx (fileCells_length m) (fileCells_at he) (fileCells_ones h1) (by unfold maxLen; omega) hbytes hbase fun v' w' hA => h v' w' ?_ ?_
    · unfold OwnF; rw [List.length_append, fileCells_app]; exact hA.own
    · exact (Keeps.of_grown hA.grown).mono fun b _ hb e => by have := (ownb hown b e.symm).1; omega
def WithoutTo (w : World) (l : List FE) (k : Nat) (e : Ending) (w' : World) : Prop := ∃ v, e = .returned v ∧ OwnF w.heap.size w' v (l.take k ++ l.drop (k + 1)) ∧ Later w w'
set_option maxRecDepth 100000 in
set_option maxHeartbeats 2000000 in
theorem without_any {B : Nat} {w : World} {v : Value} {l : List FE} (ho : OwnF B w v l) (h1 : OneF l) (hb : l.length * 48 ≤ 140737488355328) {k : Nat} (hk : k < l.length) :
    Calls Tryd.prog 24 #[v, .int .i64 k] w (WithoutTo w l k) := by
  have HF := hid (owned_files ho)
  obtain ⟨a, c, rfl⟩ := ho.slice
  have hlc := ho.len
  obtain ⟨g, rfl, -, -⟩ := ho.at hk
  have H1 := hid h1; have HB := hid hb; have HK := hid hk
  have hkc : (k : Int) ≤ c := by have := hlc.2.1; omega
  have hk0 : (0 : Int) ≤ k := by omega
  have hw : wrap64 ((k : Int) + 1) = ((k + 1 : Nat) : Int) := by have h2 := hlc.2.1; have h3 := hlc.2.2.1; unfold maxLen at h3; unfold wrap64; omega
  clear ho h1 hb hlc
  have HF1 : Hid (IsFiles w (.slice (some ⟨g, 0, none⟩) k c) (l.take k)) := hid (by
    have h := SliceOf.sub HF.out 0 k (Nat.zero_le _) (Nat.le_of_lt HK.out)
    rw [List.drop_zero] at h
    have e : sliced (some ⟨g, 0, none⟩) 0 k c 3 = .slice (some ⟨g, 0, none⟩) k c := by
      unfold sliced
      simp only [Nat.zero_mul, Nat.sub_zero, Option.map_some]
      rw [add_none rfl]
      simp
    rwa [e] at h)
  have HLT : Hid ((l.take k).length = k) := hid (by rw [List.length_take]; have := HK.out; omega)
  have HLD : Hid ((l.drop (k + 1)).length = l.length - (k + 1)) := hid (List.length_drop ..)
  go_enter Tryd.func24, Tryd.ntmps24
  go_wp2_with (at_builtin; refine wpList_append_files rfl _ _ rfl w.heap.size _ _ [] (l.take k) rfl (OwnF.nil _ _) rfl HF1.out (fun x hx => H1.out x (List.mem_of_mem_take hx)) ?c1 (Nat.le_refl _) ?_)
  case c1 => have := HLT.out; have := HB.out; have := HK.out; simp only [List.length_nil]; omega
  intro v1 w1 ho1 hk1
  have HO1 := hid ho1; have HK1 := hid hk1
  have HL1 := hid (later_keep (Later.refl w) hk1 (Nat.le_refl _))
  obtain ⟨a1, c1, hv1⟩ := ho1.slice
  rw [HLT.out] at hv1
  subst hv1
  clear ho1 hk1
  have HF2 : Hid (IsFiles w1 (.slice (if c = k + 1 then some ⟨g, 0, none⟩ else some ⟨g, (k + 1) * 3, none⟩) (l.length - (k + 1)) (c - (k + 1))) (l.drop (k + 1))) := hid (by
    have h := SliceOf.sub HF.out (k + 1) l.length (by have := HK.out; omega) (Nat.le_refl _)
    rw [List.take_length] at h
    have e : sliced (some ⟨g, 0, none⟩) (k + 1) l.length c 3 = .slice (if c = k + 1 then some ⟨g, 0, none⟩ else some ⟨g, (k + 1) * 3, none⟩) (l.length - (k + 1)) (c - (k + 1)) := by
      unfold sliced
      simp only [Option.map_some]
      rw [add_none rfl]
      simp
    rw [e] at h
    exact IsFiles.later h HL1.out)
  by_cases hc : c = k + 1
  · subst hc
    have HF3 := HF2.out
    rw [if_pos rfl, Nat.sub_self] at HF3
    go_wp2_with (at_builtin; refine wpList_append_files rfl _ _ rfl w.heap.size _ _ (l.take k) (l.drop (k + 1)) rfl HO1.out rfl HF3 (fun x hx => H1.out x (List.mem_of_mem_drop hx)) ?d2 HL1.out.size ?_)
    case d2 => have := HLT.out; have := HLD.out; have := HB.out; have := HK.out; omega
    intro v2 w2 ho2 hk2
    have HO2 := hid ho2
    have HL2 := hid (later_keep HL1.out hk2 (Nat.le_refl _))
    clear ho2 hk2 HF3 HF2
    go_wp2_with fail
    go_ret
    exact ⟨v2, rfl, HO2.out, HL2.out⟩
  · have HF3 := HF2.out
    rw [if_neg hc] at HF3
    go_wp2_with (at_builtin; refine wpList_append_files rfl _ _ rfl w.heap.size _ _ (l.take k) (l.drop (k + 1)) rfl HO1.out rfl HF3 (fun x hx => H1.out x (List.mem_of_mem_drop hx)) ?d2 HL1.out.size ?_)
    case d2 => have := HLT.out; have := HLD.out; have := HB.out; have := HK.out; omega
    intro v2 w2 ho2 hk2
    have HO2 := hid ho2
    have HL2 := hid (later_keep HL1.out hk2 (Nat.le_refl _))
    clear ho2 hk2 HF3 HF2
    go_wp2_with fail
    go_ret
    exact ⟨v2, rfl, HO2.out, HL2.out⟩
end Go.Proofs.YtcmpjdnbjhkhdaaDoor
