/-
  PROVED HERE: the law's list of transactions in memory; the contracts of the law's find and without.
  PROVED HERE: a table's lists and the law's go together, step by step. No program of its own.
-/
import Derived.Test.YtcmpjdnbjhkhdaaDoorTabTx
import Derived.Test.YtcmpjdnbjhkhdaaDoorStrOwn
import Derived.Test.YtcmpjdnbjhkhdaaDoorAppX
import Derived.Test.YtcmpjdnbjhkhdaaDoorFrame
import Derived.Test.YtcmpjdnbjhkhdaaDoorTabAt
namespace Go.Proofs.YtcmpjdnbjhkhdaaDoor
set_option linter.unusedSimpArgs false
set_option linter.unusedVariables false
open Go.RowKit

/-- a transaction of the law's list: its name, the slice of its rows, the rows. -/
structure HE where
  tx : TxD
  rv : Value
  rows : List Row
def HE.cells (x : HE) : List Value := [.int .i64 x.tx.mark, .string (strB x.tx.sink), .int .i64 x.tx.task, x.rv]
def heldCells (l : List HE) : List Value := l.flatMap HE.cells
theorem heldCells_length (l : List HE) : (heldCells l).length = l.length * 4 := by
  induction l with
  | nil => rfl
  | cons x l ih => simp only [heldCells, List.flatMap_cons, List.length_append, HE.cells, List.length_cons, List.length_nil] at ih ⊢; omega
theorem heldCells_app (l m : List HE) : heldCells (l ++ m) = heldCells l ++ heldCells m := by unfold heldCells; rw [List.flatMap_append]
theorem heldCells_get : ∀ (l : List HE) (i : Nat) (h : i < l.length), (heldCells l)[i * 4]? = some (.int .i64 l[i].tx.mark) ∧ (heldCells l)[i * 4 + 1]? = some (.string (strB l[i].tx.sink)) ∧ (heldCells l)[i * 4 + 2]? = some (.int .i64 l[i].tx.task) ∧ (heldCells l)[i * 4 + 3]? = some l[i].rv
  | x :: l, 0, _ => ⟨rfl, rfl, rfl, rfl⟩
  | x :: l, i + 1, h => by
    have ih := heldCells_get l i (by simpa using h)
    have e : heldCells (x :: l) = .int .i64 x.tx.mark :: .string (strB x.tx.sink) :: .int .i64 x.tx.task :: x.rv :: heldCells l := rfl
    rw [e, show (i + 1) * 4 = i * 4 + 1 + 1 + 1 + 1 by omega]
    exact ih
def OwnH (B : Nat) (w : World) (v : Value) (l : List HE) : Prop := w.ownsRow B 83 4 v l.length (heldCells l)
theorem OwnH.nil (B : Nat) (w : World) : OwnH B w (.slice none 0 0) [] := ⟨rfl, .inl ⟨rfl, rfl⟩⟩
theorem OwnH.slice {B : Nat} {w : World} {v : Value} {l : List HE} (h : OwnH B w v l) : ∃ a c, v = .slice a l.length c := by
  rcases h.2 with ⟨rfl, h0⟩ | ⟨g, cap, cur, rfl, _⟩
  · exact ⟨none, 0, by rw [h0]⟩
  · exact ⟨_, _, rfl⟩
theorem OwnH.later {B : Nat} {w w' : World} {v : Value} {l : List HE} (h : OwnH B w v l) (k : Later w w') : OwnH B w' v l := owns_at h k
theorem OwnH.keep {S : Nat → Prop} {B : Nat} {w w' : World} {v : Value} {l : List HE} (h : OwnH B w v l) (k : Keeps S w w') (hs : ∀ g, v.ownBlock = some g → S g) : OwnH B w' v l := owns_keep h k hs
theorem OwnH.len {B c n : Nat} {w : World} {a : Option Addr} {l : List HE} (h : OwnH B w (.slice a n c) l) : n = l.length ∧ n ≤ c ∧ c ≤ maxLen ∧ (a = none → n = 0 ∧ c = 0) := by
  obtain ⟨hl, ⟨h, h0⟩ | ⟨g, cap', cur, hv, hb, hg, h1, h2, h3, h4⟩⟩ := h
  · simp only [Value.slice.injEq] at h
    obtain ⟨rfl, rfl, rfl⟩ := h
    exact ⟨h0.symm, Nat.le_refl _, by unfold maxLen; omega, fun _ => ⟨rfl, rfl⟩⟩
  · simp only [Value.slice.injEq] at hv
    obtain ⟨rfl, rfl, rfl⟩ := hv
    exact ⟨rfl, h1, h2, fun h => (by cases h)⟩
theorem OwnH.obj {B c n : Nat} {w : World} {a : Option Addr} {l : List HE} (h : OwnH B w (.slice a n c) l) (hl : 0 < l.length) : ∃ g cur T, a = some ⟨g, 0, none⟩ ∧ B ≤ g ∧ w.heap[g]? = some (.cells cur T (0, 0)) ∧ ∀ j u, (heldCells l)[j]? = some u → w.cell? ⟨g, j, none⟩ = some u := by
  obtain ⟨-, ⟨h, h0⟩ | ⟨g, cap', cur, hv, hb, hg, h1, h2, h3, h4⟩⟩ := h
  · omega
  · simp only [Value.slice.injEq] at hv
    obtain ⟨rfl, rfl, rfl⟩ := hv
    refine ⟨g, cur, _, rfl, hb, hg, fun j u hu => cell_obj hg ?_⟩
    rw [← h4, List.getElem?_take] at hu
    split at hu
    · simpa using hu
    · cases hu
theorem OwnH.at {B c n i : Nat} {w : World} {a : Option Addr} {l : List HE} (h : OwnH B w (.slice a n c) l) (hi : i < l.length) : ∃ g, a = some ⟨g, 0, none⟩ ∧ B ≤ g ∧ w.cell? ⟨g, i * 4, none⟩ = some (.int .i64 l[i].tx.mark) ∧ w.cell? ⟨g, i * 4 + 1, none⟩ = some (.string (strB l[i].tx.sink)) ∧ w.cell? ⟨g, i * 4 + 2, none⟩ = some (.int .i64 l[i].tx.task) ∧ w.cell? ⟨g, i * 4 + 3, none⟩ = some l[i].rv ∧ ∀ j, w.frozen? ⟨g, j, none⟩ = false := by
  obtain ⟨g, cur, T, rfl, hb, hg, hc⟩ := h.obj (by omega)
  obtain ⟨h1, h2, h3, h4⟩ := heldCells_get l i hi
  exact ⟨g, rfl, hb, hc _ _ h1, hc _ _ h2, hc _ _ h3, hc _ _ h4, fun j => free_obj hg⟩
def HFindTo (x : TxD) (l : List HE) (w : World) (e : Ending) (w' : World) : Prop :=
  Later w w' ∧ ((e = .returned (.int .i64 (-1)) ∧ ∀ q ∈ l, q.tx ≠ x) ∨ ∃ (i : Nat) (h : i < l.length), e = .returned (.int .i64 i) ∧ l[i].tx = x)
theorem tx_eq {x y : TxD} (h1 : x.mark = y.mark) (h2 : x.sink = y.sink) (h3 : x.task = y.task) : x = y := by
  cases x; cases y; simp only at h1 h2 h3; subst h1 h2 h3; rfl
set_option maxRecDepth 100000 in
set_option maxHeartbeats 2000000 in
theorem find_helds {B : Nat} {w : World} {v : Value} {l : List HE} (ho : OwnH B w v l) (x : TxD) : Calls Tryd.prog 33 #[v, x.v] w (HFindTo x l w) := by
  obtain ⟨a, c, rfl⟩ := ho.slice
  have HO := hid ho
  have HC := hid ho.len
  have HX := hid (rfl : x = x)
  obtain ⟨xk, xn, xt⟩ := x
  clear ho
  go_enter Tryd.func33, Tryd.ntmps33
  go_wp2_with fail
  obtain ⟨w1, hw1⟩ : ∃ w1, w1 = w.alloc (.cells #[.int .i64 xk, .string (strB xn), .int .i64 xt] 72 (0, 0)) := ⟨_, rfl⟩
  obtain ⟨T, hT⟩ : ∃ T, T = w.heap.size := ⟨_, rfl⟩
  have HL1 : Hid (Later w w1) := hid (by rw [hw1]; exact Later.alloc _ _)
  have HT1 : Hid (w1.heap[T]? = some (.cells #[.int .i64 xk, .string (strB xn), .int .i64 xt] 72 (0, 0))) := hid (by rw [hw1, hT]; exact obj_new _ _)
  rw [← hw1, ← hT]
  clear hw1 hT
  obtain ⟨R1, hR1⟩ : ∃ RR_ : (Nat → Value) → World → Prop, RR_ = (fun us wx => ∃ i : Nat, us 5 = .int .i64 i ∧ i ≤ l.length ∧ Later w1 wx ∧ ∀ j (h : j < l.length), j < i → l[j].tx ≠ ⟨xk, xn, xt⟩) := ⟨_, rfl⟩
  obtain ⟨mu1, hmu1⟩ : ∃ mu : (Nat → Value) → World → Nat, mu = (fun us _ => l.length - (intOf (us 5)).toNat) := ⟨_, rfl⟩
  have HR1 := hid hR1; have Hmu1 := hid hmu1; clear hR1 hmu1
  refine wp_loop_frame' [false, false, false, false, true, true, true, true, true, true, true, true, true, true, true, true, true, true, true, true] R1 _ mu1 HR1.out ?_ ?_
  · exact ⟨0, rfl, Nat.zero_le _, Later.refl _, fun j h h0 => by omega⟩
  intro us1 wx hrel
  obtain ⟨i, h5, hi, hL, hall⟩ := hrel
  simp only [frameOf, Nat.reduceAdd, h5]
  have Hh5 := hid h5; clear h5
  have HA := hid hall; have HI := hid hi; have HL := hid hL
  clear hall hi hL
  by_cases hlt : i < l.length
  · obtain ⟨g, rfl, -, q1, q2, q3, -, -⟩ := HO.out.at hlt
    have p1 := HL.out.cell (HL1.out.cell q1)
    have p2 := HL.out.cell (HL1.out.cell q2)
    have p3 := HL.out.cell (HL1.out.cell q3)
    clear q1 q2 q3
    have hT2 := HL.out.obj HT1.out
    have t1 := cell_obj (i := 0) hT2 rfl
    have t2 := cell_obj (i := 1) hT2 rfl
    have t3 := cell_obj (i := 2) hT2 rfl
    have hl2 : T < wx.heap.size := cell_lt t1
    clear hT2
    have hg : g < wx.heap.size := cell_lt p1
    have HW : Hid (wrap64 ((i : Int) + 1) = ((i + 1 : Nat) : Int)) := hid (by have h1 := HC.out.2.1; have h2 := HC.out.2.2.1; unfold maxLen at h2; unfold wrap64; omega)
    obtain ⟨y, hy⟩ : ∃ y, y = (l[i]'hlt).tx := ⟨_, rfl⟩
    have HY := hid hy
    rw [← hy] at p1 p2 p3
    clear hy
    obtain ⟨yk, yn, yt⟩ := y
    simp only at p1 p2 p3
    go_upto_region 4 with (fail)
    refine wp_region_lex (by kernel_rfl) (by kernel_rfl) Later Later.refl Later.trans (fun _ => none) (fun _ _ _ _ _ h => by cases h) ?_
    simp only [numbered, Nat.reduceAdd]
    refine LexS.out ?_
    iterate 6
      first
      | (refine LexS.skip rfl ?_; simp only [Act.put, List.setIfInBounds_toArray, List.set])
      | (refine LexS.one' rfl rfl ?_
         apply Exists.intro
         refine ⟨fun w hR hF => ?_, ?_⟩
         · have hP := hR
           repeat (first | replace hP := Later.of_drew hP | replace hP := Later.of_drewN hP | replace hP := Later.of_alloc hP)
           have hcs := hR.cells
           have zp1 := hP.cell p1
           have zp2 := hP.cell p2
           have zp3 := hP.cell p3
           have zt1 := hP.cell t1
           have zt2 := hP.cell t2
           have zt3 := hP.cell t3
           clear hR hF hP
           go_simp
           first | done | rfl
         simp only [Act.put, List.setIfInBounds_toArray, List.set])
    obtain ⟨bb, hbb⟩ : ∃ bb : Bool, bb = decide (yk = xk ∧ yn = xn ∧ yt = xt) := ⟨_, rfl⟩
    refine LexS.one' rfl rfl ⟨.bool bb, fun w hR hF => ?_, ?_⟩
    · clear hR hF
      go_simp
      simp only [strB_list]
      by_cases h1 : yk = xk
      · by_cases h2 : yn = xn
        · by_cases h3 : yt = xt
          · simp [h1, h2, h3]
          · simp [h1, h2, h3]
        · simp [h1, h2]
      · simp [h1]
    simp only [Act.put, List.setIfInBounds_toArray, List.set]
    refine LexS.nil ?_
    intro w2 hR2 hF9
    clear hF9
    repeat (first | replace hR2 := Later.of_drew hR2 | replace hR2 := Later.of_drewN hR2 | replace hR2 := Later.of_alloc hR2)
    have HL2 := hid (Later.trans _ _ _ HL1.out (Later.trans _ _ _ HL.out hR2))
    have HR2 := hid hR2
    clear hR2 p1 p2 p3 t1 t2 t3 hl2 hg
    cases bb with
    | true =>
      obtain ⟨rfl, rfl, rfl⟩ := of_decide_eq_true hbb.symm
      clear hbb
      go_wp2_with fail
      go_ret
      exact ⟨HL2.out, .inr ⟨i, hlt, rfl, HY.out.symm⟩⟩
    | false =>
      have HB := hid (of_decide_eq_false hbb.symm)
      clear hbb
      go_wp2_with fail
      try simp only [HW.out]
      refine Round.mk' HR1.out Hmu1.out rfl ?_ ?_
      · refine ⟨i + 1, rfl, hlt, Later.trans _ _ _ HL.out HR2.out, fun j h hj => ?_⟩
        by_cases hji : j = i
        · subst hji
          rw [← HY.out]
          intro e
          simp only [TxD.mk.injEq] at e
          exact HB.out e
        · exact HA.out j h (by omega)
      · rw [Hh5.out]; simp [intOf, slots]; omega
  · go_wp2_with fail
    go_ret
    exact ⟨Later.trans _ _ _ HL1.out HL.out, .inl ⟨rfl, fun x hx => by
      obtain ⟨j, hj, rfl⟩ := List.getElem_of_mem hx
      exact HA.out j hj (by omega)⟩⟩

def HeldAt (w : World) (b o : Nat) (x : HE) : Prop := w.cell? ⟨b, o, none⟩ = some (.int .i64 x.tx.mark) ∧ w.cell? ⟨b, o + 1, none⟩ = some (.string (strB x.tx.sink)) ∧ w.cell? ⟨b, o + 2, none⟩ = some (.int .i64 x.tx.task) ∧ w.cell? ⟨b, o + 3, none⟩ = some x.rv
abbrev IsHelds (w : World) (v : Value) (l : List HE) : Prop := SliceOf All HeldAt 4 w v l
theorem HeldAt.later {w w' : World} {b o : Nat} {x : HE} (h : HeldAt w b o x) (k : Later w w') : HeldAt w' b o x := ⟨k.cell h.1, k.cell h.2.1, k.cell h.2.2.1, k.cell h.2.2.2⟩
theorem IsHelds.later {w w' : World} {v : Value} {l : List HE} (h : IsHelds w v l) (k : Later w w') : IsHelds w' v l := h.map fun _ _ _ hb hx => ⟨hb, hx.later k⟩
theorem owned_helds {w : World} {B : Nat} {v : Value} {l : List HE} (h : OwnH B w v l) : IsHelds w v l := by
  obtain ⟨a, c, rfl⟩ := h.slice
  have hl := h.len
  refine ⟨a, c, rfl, hl.2.1, hl.2.2.1, fun h0 => (hl.2.2.2 h0).2, fun i hi => ?_⟩
  obtain ⟨g, rfl, -, p1, p2, p3, p4, -⟩ := h.at hi
  refine ⟨g, 0, rfl, trivial, ?_⟩
  rw [Nat.zero_add]
  exact ⟨p1, p2, p3, p4⟩
theorem heldCells_at {S : Nat → Prop} {w : World} {a : Addr} {l : List HE} (h : Elems S HeldAt 4 w (some a) l) : ∀ j u, (heldCells l)[j]? = some u → w.cell? (a.add j) = some u := by
  intro j u hu
  have hj : j < l.length * 4 := by
    rw [← heldCells_length]; exact (List.getElem?_eq_some_iff.1 hu).1
  obtain ⟨b, o, ha, _, h1, h2, h3, h4⟩ := h (j / 4) (by omega)
  cases ha
  obtain ⟨q1, q2, q3, q4⟩ := heldCells_get l (j / 4) (by omega)
  rw [add_none rfl]
  rcases (by omega : j = j / 4 * 4 ∨ j = j / 4 * 4 + 1 ∨ j = j / 4 * 4 + 2 ∨ j = j / 4 * 4 + 3) with e | e | e | e
  · rw [e] at hu; rw [q1] at hu; cases hu
    simpa [← e] using h1
  · rw [e] at hu; rw [q2] at hu; cases hu
    rw [Nat.add_assoc, ← e] at h2
    simpa using h2
  · rw [e] at hu; rw [q3] at hu; cases hu
    rw [Nat.add_assoc, ← e] at h3
    simpa using h3
  · rw [e] at hu; rw [q4] at hu; cases hu
    rw [Nat.add_assoc, ← e] at h4
    simpa using h4
theorem infoHeld : (Tryd.prog.info? 83).map (fun i => (i.zero, i.size, i.bytes)) = some (some (.agg #[.int .i64 0, .string ⟨#[]⟩, .int .i64 0, .slice none 0 0]), 4, 56) := by kernel_rfl
/-- each of them is one cell. -/
def OneH (l : List HE) : Prop := ∀ x ∈ l, x.rv.oneCell' = true
theorem heldCells_ones {l : List HE} (h : OneH l) : ∀ u ∈ heldCells l, u.oneCell' = true := by
  intro u hu
  obtain ⟨y, hy, hu⟩ := List.mem_flatMap.1 hu
  simp only [HE.cells, List.mem_cons, List.not_mem_nil, or_false] at hu
  rcases hu with rfl | rfl | rfl | rfl
  · rfl
  · rfl
  · rfl
  · exact h y hy
theorem wpList_append_helds {w : World} {ops : Array Oper} {rest : List Oper} {o : Oper} {a : Act} {Q : Exit → Act → World → Prop} (hgd : o.guard = none) (s x : Operand)
    (ho : o.op = .call { callee := .builtin .append, args := #[s, x], argTypes := #[70, 70] })
    (base : Nat) (v u : Value) (xs m : List HE) (hs : a.eval s = v) (hown : OwnH base w v xs) (hx : a.eval x = u) (hu : IsHelds w u m) (h1 : OneH m)
    (hbytes : (xs.length + m.length) * 56 ≤ 140737488355328) (hbase : base ≤ w.heap.size)
    (h : ∀ v' w', OwnH base w' v' (xs ++ m) → Keeps (fun b => b < base) w w' → wpList Tryd.prog ops Q rest (a.put o.dst v') w') : wpList Tryd.prog ops Q (o :: rest) a w := by
  obtain ⟨i0, hi, hz0, hz1, hz2⟩ := info_parts infoHeld
  obtain ⟨p, c, rfl, hlc, hcm, hnil, he⟩ := hu
  cases p with
  | none =>
    obtain rfl : c = 0 := hnil rfl
    have hm : m = [] := List.eq_nil_of_length_eq_zero (by omega)
    subst hm
    refine wpList_append_nil w hgd s x _ ho base 83 i0 4 Tryd.underlying70 hi v _ _ hs hown hx (h v w ?_ (Keeps.refl _ _))
    rw [List.append_nil]; exact hown
  | some ad =>
    refine wpList_append w hgd s x _ ho base 83 i0 _ 4 56 Tryd.underlying70 hi hz0 hz1 hz2 rfl (by decide) v _ _ hs hown ad m.length c (heldCells m) hx (heldCells_length m) (heldCells_at he) (heldCells_ones h1) (by unfold maxLen; omega) hbytes hbase fun v' w' hA => h v' w' ?_ ?_
    · unfold OwnH; rw [List.length_append, heldCells_app]; exact hA.own
    · exact (Keeps.of_grown hA.grown).mono fun b _ hb e => by have := (ownb hown b e.symm).1; omega
def WithoutHTo (w : World) (l : List HE) (k : Nat) (e : Ending) (w' : World) : Prop := ∃ v, e = .returned v ∧ OwnH w.heap.size w' v (l.take k ++ l.drop (k + 1)) ∧ Later w w'
set_option maxRecDepth 100000 in
set_option maxHeartbeats 2000000 in
theorem without_helds {B : Nat} {w : World} {v : Value} {l : List HE} (ho : OwnH B w v l) (h1 : OneH l) (hb : l.length * 56 ≤ 140737488355328) {k : Nat} (hk : k < l.length) :
    Calls Tryd.prog 37 #[v, .int .i64 k] w (WithoutHTo w l k) := by
  have HF := hid (owned_helds ho)
  obtain ⟨a, c, rfl⟩ := ho.slice
  have hlc := ho.len
  obtain ⟨g, rfl, -, -⟩ := ho.at hk
  have H1 := hid h1; have HB := hid hb; have HK := hid hk
  have hkc : (k : Int) ≤ c := by have := hlc.2.1; omega
  have hk0 : (0 : Int) ≤ k := by omega
  have hw : wrap64 ((k : Int) + 1) = ((k + 1 : Nat) : Int) := by have h2 := hlc.2.1; have h3 := hlc.2.2.1; unfold maxLen at h3; unfold wrap64; omega
  clear ho h1 hb hlc
  have HF1 : Hid (IsHelds w (.slice (some ⟨g, 0, none⟩) k c) (l.take k)) := hid (by
    have h := SliceOf.sub HF.out 0 k (Nat.zero_le _) (Nat.le_of_lt HK.out)
    rw [List.drop_zero] at h
    have e : sliced (some ⟨g, 0, none⟩) 0 k c 4 = .slice (some ⟨g, 0, none⟩) k c := by
      unfold sliced
      simp only [Nat.zero_mul, Nat.sub_zero, Option.map_some]
      rw [add_none rfl]
      simp
    rwa [e] at h)
  have HLT : Hid ((l.take k).length = k) := hid (by rw [List.length_take]; have := HK.out; omega)
  have HLD : Hid ((l.drop (k + 1)).length = l.length - (k + 1)) := hid (List.length_drop ..)
  go_enter Tryd.func37, Tryd.ntmps37
  go_wp2_with (at_builtin; refine wpList_append_helds rfl _ _ rfl w.heap.size _ _ [] (l.take k) rfl (OwnH.nil _ _) rfl HF1.out (fun x hx => H1.out x (List.mem_of_mem_take hx)) ?c1 (Nat.le_refl _) ?_)
  case c1 => have := HLT.out; have := HB.out; have := HK.out; simp only [List.length_nil]; omega
  intro v1 w1 ho1 hk1
  have HO1 := hid ho1; have HK1 := hid hk1
  have HL1 := hid (later_keep (Later.refl w) hk1 (Nat.le_refl _))
  obtain ⟨a1, c1, hv1⟩ := ho1.slice
  rw [HLT.out] at hv1
  subst hv1
  clear ho1 hk1
  have HF2 : Hid (IsHelds w1 (.slice (if c = k + 1 then some ⟨g, 0, none⟩ else some ⟨g, (k + 1) * 4, none⟩) (l.length - (k + 1)) (c - (k + 1))) (l.drop (k + 1))) := hid (by
    have h := SliceOf.sub HF.out (k + 1) l.length (by have := HK.out; omega) (Nat.le_refl _)
    rw [List.take_length] at h
    have e : sliced (some ⟨g, 0, none⟩) (k + 1) l.length c 4 = .slice (if c = k + 1 then some ⟨g, 0, none⟩ else some ⟨g, (k + 1) * 4, none⟩) (l.length - (k + 1)) (c - (k + 1)) := by
      unfold sliced
      simp only [Option.map_some]
      rw [add_none rfl]
      simp
    rw [e] at h
    exact IsHelds.later h HL1.out)
  by_cases hc : c = k + 1
  · subst hc
    have HF3 := HF2.out
    rw [if_pos rfl, Nat.sub_self] at HF3
    go_wp2_with (at_builtin; refine wpList_append_helds rfl _ _ rfl w.heap.size _ _ (l.take k) (l.drop (k + 1)) rfl HO1.out rfl HF3 (fun x hx => H1.out x (List.mem_of_mem_drop hx)) ?d2 HL1.out.size ?_)
    case d2 => have := HLT.out; have := HLD.out; have := HB.out; have := HK.out; omega
    intro v2 w2 ho2 hk2
    have HO2 := hid ho2
    have HL2 := hid (later_keep HL1.out hk2 (Nat.le_refl _))
    clear ho2 hk2 HF3 HF2
    go_wp2_with fail
    go_ret
    exact ⟨v2, rfl, HO2.out, HL2.out⟩
  · have HF3 := HF2.out
    rw [if_neg hc] at HF3
    go_wp2_with (at_builtin; refine wpList_append_helds rfl _ _ rfl w.heap.size _ _ (l.take k) (l.drop (k + 1)) rfl HO1.out rfl HF3 (fun x hx => H1.out x (List.mem_of_mem_drop hx)) ?d2 HL1.out.size ?_)
    case d2 => have := HLT.out; have := HLD.out; have := HB.out; have := HK.out; omega
    intro v2 w2 ho2 hk2
    have HO2 := hid ho2
    have HL2 := hid (later_keep HL1.out hk2 (Nat.le_refl _))
    clear ho2 hk2 HF3 HF2
    go_wp2_with fail
    go_ret
    exact ⟨v2, rfl, HO2.out, HL2.out⟩
end Go.Proofs.YtcmpjdnbjhkhdaaDoor
namespace Go.Proofs.YtcmpjdnbjhkhdaaDoor
set_option linter.unusedSimpArgs false
set_option linter.unusedVariables false
open Go.RowKit

def ofSink (k : List UInt8) (q : HE) : Bool := decide (q.tx.sink = k)
/-- the rows of a sink, of what the law has committed. -/
def seenL (C : List HE) (k : List UInt8) : List Row := (C.filter (ofSink k)).flatMap HE.rows
structure TRel (ps : List PD) (h : List UInt8 → List RX) (P C : List HE) : Prop where
  nd : (P.map HE.tx).Nodup
  perm : (ps.map PD.tx).Perm (P.map HE.tx)
  rows : ∀ p ∈ ps, ∀ q ∈ P, p.tx = q.tx → (p.xs.map (·.row)).Perm q.rows
  seen : ∀ k, ((h k).map (·.row)).Perm (seenL C k)
variable {ps : List PD} {h : List UInt8 → List RX} {P C : List HE}
theorem TRel.start : TRel [] (fun _ => []) [] [] := ⟨List.nodup_nil, List.Perm.nil, (fun p hp => by cases hp), fun k => List.Perm.nil⟩
theorem TRel.len (t : TRel ps h P C) : ps.length = P.length := by have := t.perm.length_eq; rwa [List.length_map, List.length_map] at this
theorem TRel.has (t : TRel ps h P C) (x : TxD) : hasP ps x = true ↔ ∃ q ∈ P, q.tx = x := by
  unfold hasP
  rw [hasC_mem compareT_total]
  constructor
  · rintro ⟨p, hp, rfl⟩
    exact List.mem_map.1 (t.perm.mem_iff.1 (List.mem_map_of_mem hp))
  · rintro ⟨q, hq, rfl⟩
    exact List.mem_map.1 (t.perm.mem_iff.2 (List.mem_map_of_mem hq))
theorem TRel.hasNot (t : TRel ps h P C) {x : TxD} (hx : ∀ q ∈ P, q.tx ≠ x) : hasP ps x = false := by
  cases hb : hasP ps x with
  | false => rfl
  | true => obtain ⟨q, hq, e⟩ := (t.has x).1 hb; exact absurd e (hx q hq)
theorem ins_perm {α : Type} (l : List α) (i : Nat) (x : α) : (l.take i ++ x :: l.drop i).Perm (l ++ [x]) := by
  have h1 : (l.take i ++ x :: l.drop i).Perm (x :: (l.take i ++ l.drop i)) := List.perm_middle
  rw [List.take_append_drop] at h1
  exact h1.trans (List.perm_append_singleton x l).symm
theorem del_perm {α : Type} {l : List α} {i : Nat} (hi : i < l.length) : l.Perm (l[i] :: (l.take i ++ l.drop (i + 1))) := by
  have e : l.take i ++ l[i] :: l.drop (i + 1) = l := by rw [← List.drop_eq_getElem_cons hi, List.take_append_drop]
  have h1 : (l.take i ++ l[i] :: l.drop (i + 1)).Perm (l[i] :: (l.take i ++ l.drop (i + 1))) := List.perm_middle
  rwa [e] at h1
theorem TRel.insert (t : TRel ps h P C) {p : PD} {q : HE} (hq : ∀ y ∈ P, y.tx ≠ q.tx) (hp : p.tx = q.tx) (hr : (p.xs.map (·.row)).Perm q.rows) (i : Nat) : TRel (ps.take i ++ p :: ps.drop i) h (P ++ [q]) C where
  nd := by
    rw [List.map_append, List.nodup_append]
    refine ⟨t.nd, by simp, fun a ha b hb e => ?_⟩
    obtain ⟨y, hy, rfl⟩ := List.mem_map.1 ha
    rw [List.map_cons, List.map_nil] at hb
    obtain rfl := List.mem_singleton.1 hb
    exact hq y hy e
  perm := by
    have h1 := (ins_perm ps i p).map PD.tx
    rw [List.map_append (l₁ := ps), List.map_cons, List.map_nil, hp] at h1
    rw [List.map_append (l₁ := P), List.map_cons, List.map_nil]
    exact h1.trans (t.perm.append_right _)
  rows := by
    intro a ha b hb e
    have ha := (ins_perm ps i p).mem_iff.1 ha
    rcases List.mem_append.1 ha with ha | ha
    · rcases List.mem_append.1 hb with hb | hb
      · exact t.rows a ha b hb e
      · obtain rfl := List.mem_singleton.1 hb
        exfalso
        obtain ⟨y, hy, e2⟩ := List.mem_map.1 (t.perm.mem_iff.1 (List.mem_map_of_mem ha))
        exact hq y hy (e2.trans e)
    · obtain rfl := List.mem_singleton.1 ha
      rcases List.mem_append.1 hb with hb | hb
      · exact absurd (e.symm.trans hp) (hq b hb)
      · obtain rfl := List.mem_singleton.1 hb
        exact hr
  seen := t.seen
theorem TRel.delete (t : TRel ps h P C) {i j : Nat} (hi : i < ps.length) (hj : j < P.length) (e : ps[i].tx = P[j].tx) : TRel (ps.take i ++ ps.drop (i + 1)) h (P.take j ++ P.drop (j + 1)) C where
  nd := by
    have e2 : (P.take j ++ P.drop (j + 1)) = P.eraseIdx j := (List.eraseIdx_eq_take_drop_succ P j).symm
    rw [e2]
    exact t.nd.sublist ((List.eraseIdx_sublist P j).map _)
  perm := by
    have h1 := (del_perm hi).map PD.tx
    have h2 := (del_perm hj).map HE.tx
    rw [List.map_cons] at h1 h2
    have h3 := (h1.symm.trans t.perm).trans h2
    rw [e] at h3
    exact List.Perm.cons_inv h3
  rows := fun p hp q hq => t.rows p ((del_perm hi).mem_iff.2 (List.mem_cons_of_mem _ hp)) q ((del_perm hj).mem_iff.2 (List.mem_cons_of_mem _ hq))
  seen := t.seen
theorem TRel.commit (t : TRel ps h P C) {q : HE} {xs : List RX} (hr : (xs.map (·.row)).Perm q.rows) : TRel ps (updH h q.tx.sink xs) P (C ++ [q]) where
  nd := t.nd
  perm := t.perm
  rows := t.rows
  seen := fun k => by
    unfold updH seenL
    rw [List.filter_append, List.flatMap_append]
    by_cases hk : k = q.tx.sink
    · subst hk
      rw [if_pos rfl, List.map_append]
      have e : [q].filter (ofSink q.tx.sink) = [q] := by simp [ofSink]
      rw [e]
      refine (t.seen q.tx.sink).append ?_
      simpa using hr
    · rw [if_neg hk]
      have e : [q].filter (ofSink k) = [] := by simp [ofSink]; exact fun e => hk e.symm
      rw [e, List.flatMap_nil, List.append_nil]
      exact t.seen k
def sumH (l : List HE) : Nat := (l.map fun q => q.rows.length).sum
def sumP (l : List PD) : Nat := (l.map fun p => p.xs.length).sum
theorem sumH_app (l m : List HE) : sumH (l ++ m) = sumH l + sumH m := by unfold sumH; rw [List.map_append, List.sum_append]
theorem sumH_one (q : HE) : sumH [q] = q.rows.length := by unfold sumH; simp
theorem sumH_del {l : List HE} {i : Nat} (hi : i < l.length) : sumH l = l[i].rows.length + sumH (l.take i ++ l.drop (i + 1)) := by
  have h := ((del_perm hi).map fun q => q.rows.length).sum_nat
  unfold sumH
  rw [h, List.map_cons, List.sum_cons]
theorem seenL_len (C : List HE) (k : List UInt8) : (seenL C k).length ≤ sumH C := by
  induction C with
  | nil => exact Nat.zero_le _
  | cons q C ih =>
    unfold seenL sumH at *
    rw [List.filter_cons, List.map_cons, List.sum_cons]
    split
    · rw [List.flatMap_cons, List.length_append]; omega
    · omega
theorem seenL_mem {C : List HE} {k : List UInt8} {r : Row} (hr : r ∈ seenL C k) : ∃ q ∈ C, r ∈ q.rows := by
  obtain ⟨q, hq, h⟩ := List.mem_flatMap.1 hr
  exact ⟨q, (List.mem_filter.1 hq).1, h⟩
theorem TRel.hlen (t : TRel ps h P C) (k : List UInt8) : (h k).length ≤ sumH C := by
  have := (t.seen k).length_eq
  rw [List.length_map] at this
  rw [this]
  exact seenL_len C k
/-- the rows that each prepared one has. -/
theorem TRel.count (t : TRel ps h P C) {i : Nat} (hi : i < ps.length) {q : HE} (hq : q ∈ P) (e : q.tx = ps[i].tx) : q.rows.length = ps[i].xs.length := by
  have := (t.rows _ (List.getElem_mem hi) q hq e.symm).length_eq
  rw [List.length_map] at this
  exact this.symm
theorem TRel.sum (t : TRel ps h P C) : sumP ps = sumH P := by
  induction ps generalizing P with
  | nil =>
    have := t.len
    have : P = [] := List.eq_nil_of_length_eq_zero (by simpa using this.symm)
    subst this
    rfl
  | cons p ps ih =>
    obtain ⟨q, hq, e⟩ := List.mem_map.1 (t.perm.mem_iff.1 (List.mem_map_of_mem List.mem_cons_self))
    obtain ⟨j, hj, rfl⟩ := List.getElem_of_mem hq
    have h1 := t.delete (i := 0) (Nat.zero_lt_succ _) hj e.symm
    have h2 := ih h1
    have h3 := t.count (i := 0) (Nat.zero_lt_succ _) (List.getElem_mem hj) e
    rw [sumH_del hj, ← h2]
    unfold sumP at *
    rw [List.map_cons, List.sum_cons, h3]
    rfl
end Go.Proofs.YtcmpjdnbjhkhdaaDoor
