/-
  PROVED HERE: the contract of slices.Insert at prepared transactions, onto a slice of one's own.
-/
import Derived.Test.YtcmpjdnbjhkhdaaDoorIns
import Derived.Test.YtcmpjdnbjhkhdaaDoorCopyZero
import Derived.Test.YtcmpjdnbjhkhdaaDoorTabFind
import Derived.Lib.Overlaps
import Derived.Test.YtcmpjdnbjhkhdaaDoorLexS
import Derived.Test.YtcmpjdnbjhkhdaaDoorFrame
namespace Go.Proofs.YtcmpjdnbjhkhdaaDoor
set_option linter.unusedSimpArgs false
set_option linter.unusedVariables false
open Go.RowKit

def InsPTo (w : World) (base n : Nat) (v : Value) (xs : List Value) (e : Ending) (w' : World) : Prop :=
  ∃ v', e = .returned v' ∧ w'.ownsRow base 137 4 v' (n + 1) xs ∧ Keeps (fun b => some b ≠ v.ownBlock) w w' ∧ (v'.ownBlock = v.ownBlock ∨ ∀ b, v'.ownBlock = some b → w.heap.size ≤ b)
theorem infoPd : (Tryd.prog.info? 137).map (fun i => (i.zero, i.size, i.bytes)) = some (some (.agg #[.int .i64 0, .string ⟨#[]⟩, .int .i64 0, .slice none 0 0]), 4, 56) := by kernel_rfl
def pdCells (l : List PD) : List Value := l.flatMap PD.cells
theorem pdCells_length (l : List PD) : (pdCells l).length = l.length * 4 := by
  induction l with
  | nil => rfl
  | cons x l ih => simp only [pdCells, List.flatMap_cons, List.length_append, PD.cells, List.length_cons, List.length_nil] at ih ⊢; omega
/-- each of them is one cell. -/
def OneP (l : List PD) : Prop := ∀ p ∈ l, p.rv.oneCell' = true
theorem SlP.one {l : List PD} (h : SlP l) : OneP l := fun p hp => by obtain ⟨a, n, c, e⟩ := h p hp; rw [e]; rfl
theorem pdElem : ElemInfo Tryd.prog 137 4 56 := ElemInfo.of infoPd rfl (by decide)
theorem pd_ones (x : PD) (hx1 : x.rv.oneCell' = true) : ∀ u ∈ x.cells, u.oneCell' = true := by
  intro u hu
  simp only [PD.cells, List.mem_cons, List.not_mem_nil, or_false] at hu
  rcases hu with rfl | rfl | rfl | rfl
  · rfl
  · rfl
  · rfl
  · exact hx1
theorem InsPTo.of_app {w w' : World} {base n : Nat} {v v' : Value} {xs : List Value} (h : AppX w base 137 4 v n 1 xs v' w') : InsPTo w base n v xs (.returned v') w' := by
  refine ⟨v', rfl, h.own, ?_, ?_⟩
  · rcases h.kind with ⟨g, cap, rfl, rfl, k⟩ | ⟨k, -⟩
    · exact k.mono fun b _ hb e => hb (by rw [e]; rfl)
    · exact k.keeps _
  · rcases h.kind with ⟨g, cap, rfl, rfl, k⟩ | ⟨-, k⟩
    · exact .inl rfl
    · exact .inr k
set_option maxRecDepth 100000 in
set_option maxHeartbeats 2000000 in
theorem insP_end (x : PD) (hx1 : x.rv.oneCell' = true) (n : Nat) (xs : List Value) (v : Value) (base vb : Nat) (T : TypeId) (w : World) (hown : w.ownsRow base 137 4 v n xs) (hvb : w.heap[vb]? = some (.cells x.cells.toArray T (0, 0)))
    (hbig : (n + 1) * 56 ≤ 140737488355328) (hbase : base ≤ w.heap.size) :
    Calls Tryd.prog 70 #[v, .int .i64 n, .slice (some ⟨vb, 0, none⟩) 1 1] w (InsPTo w base n v (xs ++ x.cells)) := by
  have HO := hid hown; have HV := hid hvb; have HB := hid hbig; have HBS := hid hbase
  have hshape := hown.2
  have hn : (n : Int) < 9223372036854775807 := by omega
  have HM : Hid (n + 1 ≤ maxLen) := hid (by unfold maxLen; omega)
  clear hown hvb hbig hbase
  rcases hshape with ⟨rfl, rfl⟩ | ⟨g, cap, cur, rfl, -, -, hnc, hcm, -, -⟩
  · skip
    go_enter Tryd.func70, Tryd.ntmps70
    go_wp2_with (at_builtin; go_loud (refine wpList_append_objx rfl _ _ 130 rfl 137 4 56 Tryd.underlying130 pdElem rfl HO.out (news := x.cells) rfl HV.out rfl (pd_ones x hx1) HB.out HM.out HBS.out ?_))
    intro v7 w7 hA7
    have HA7 := hid hA7
    clear hA7
    go_wp2_with fail
    go_ret
    exact InsPTo.of_app HA7.out
  · have hcm' : cap ≤ 9223372036854775807 := hcm
    have HC := hid hcm
    clear hcm
    go_enter Tryd.func70, Tryd.ntmps70
    go_upto_region 2 with (fail)
    generalize (if cap = n then (some ⟨g, 0, none⟩ : Option Addr) else some ⟨g, n * 4, none⟩) = z
    go_upto_region 7 with (fail)
    clear hcm' hnc hn
    go_wp2_with (at_builtin; go_loud (refine wpList_append_objx rfl _ _ 130 rfl 137 4 56 Tryd.underlying130 pdElem rfl HO.out (news := x.cells) rfl HV.out rfl (pd_ones x hx1) HB.out HM.out HBS.out ?_))
    intro v7 w7 hA7
    have HA7 := hid hA7
    clear hA7
    go_wp2_with fail
    go_ret
    exact InsPTo.of_app HA7.out
set_option maxRecDepth 100000 in
set_option maxHeartbeats 2000000 in
/-- no room: a new block. -/
theorem insP_new_any (x : PD) (hx1 : x.rv.oneCell' = true) (n i g cap : Nat) (xs : List Value) (base vb : Nat) (T : TypeId) (w : World) (hown : w.ownsRow base 137 4 (.slice (some ⟨g, 0, none⟩) n cap) n xs) (hvb : w.heap[vb]? = some (.cells x.cells.toArray T (0, 0))) (hne : vb ≠ g) (hones : ∀ u ∈ xs, u.oneCell' = true)
    (hi : i < n) (hroom : cap < n + 1) (hbig : (n + 1) * 56 ≤ 140737488355328) (hbase : base ≤ w.heap.size) :
    Calls Tryd.prog 70 #[.slice (some ⟨g, 0, none⟩) n cap, .int .i64 i, .slice (some ⟨vb, 0, none⟩) 1 1] w (InsPTo w base n (.slice (some ⟨g, 0, none⟩) n cap) (xs.take (i * 4) ++ x.cells ++ xs.drop (i * 4))) := by
  have HO := hid hown; have HV := hid hvb; have HB := hid hbig; have HBS := hid hbase; have HN := hid hne; have HON := hid hones
  have hcap : cap = n := by
    rcases hown.2 with ⟨h, -⟩ | ⟨g', cap', cur, h, -, -, hnc, -⟩
    · cases h
    · simp only [Value.slice.injEq] at h
      omega
  subst hcap
  have hw : IntKind.i64.wrap ((cap : Int) + 1) = (cap : Int) + 1 := by rw [IntKind.wrap_i64]; omega
  have hic : ¬ ((i : Int) = (cap : Int)) := by omega
  have HM : Hid (cap + 1 ≤ maxLen) := hid (by unfold maxLen; omega)
  clear hown hvb hbig hbase hne hroom hones
  go_enter Tryd.func70, Tryd.ntmps70
  go_upto_region 9 with (fail)
  obtain ⟨k, hk⟩ : ∃ k, k = cap + 1 - i := ⟨_, rfl⟩
  have hwk : IntKind.i64.wrap ((cap : Int) + 1 - i) = (k : Int) := by have := HB.out; clear hw; rw [IntKind.wrap_i64]; omega
  have HK := hid hk
  have hik : i + k = cap + 1 := by omega
  have hk0 : 0 < k := by omega
  have HI := hid hi
  have hile : i ≤ cap := Nat.le_of_lt hi
  have hl3 : (xs.take (i * 4)).length = i * 4 := by
    have := HO.out.1
    rw [List.length_take]
    omega
  have HX3 := hid hl3
  clear hl3 hk hi
  go_wp2_with (at_builtin; go_loud (refine wpList_append_zeros rfl _ _ 130 3 rfl Tryd.underlying130 Tryd.underlying3 pdElem rfl HX3.out (fun j u hu => ?f1) rfl hk0 ?f2 ?f3 ?f4 ?_))
  case f1 =>
    have h := HO.out.cells (g := g) rfl j u (by rw [List.getElem?_take] at hu; split at hu; exact hu; cases hu)
    rw [add_none rfl] at h
    simpa using h
  case f2 => rw [hik]; exact Nat.lt_succ_self _
  case f3 => rw [hik]; exact HM.out
  case f4 => rw [hik]; exact HB.out
  intro Z c hc1 hc2 hZ
  obtain ⟨R, hR⟩ : ∃ R, R = w.heap.size := ⟨_, rfl⟩
  obtain ⟨w1, hw1⟩ : ∃ w1, w1 = w.drew.alloc (.cells (xs.take (i * 4) ++ Z).toArray 137 (0, 0)) := ⟨_, rfl⟩
  have HL1 : Hid (Later w w1) := hid (by rw [hw1]; exact ((Later.refl w).drew').alloc' _)
  have HR1 : Hid (w1.heap[R]? = some (.cells (xs.take (i * 4) ++ Z).toArray 137 (0, 0))) := hid (by rw [hw1, hR]; exact obj_new _ _)
  have HRS := hid hR
  have hw1' : (w.alloc (.cells (xs.take (i * 4) ++ Z).toArray 137 (0, 0))).drew = w1 := hw1.symm
  rw [← hR, hw1']
  have HC1 := hid hc1; have HC2 := hid hc2; have HZ := hid hZ
  have hci : ¬ c = i := by omega
  have hic2 : i ≤ cap + 1 := by omega
  have h0i : (0 : Int) ≤ (i : Int) := by omega
  obtain ⟨i0, z0, hi0, hz0, hz1, hz2, -, -⟩ := pdElem.ex
  have HI0 := hid hi0; have HZ1 := hid hz1
  clear hc1 hc2 hZ hw1' hw1 hR hi0 hz0 hz1 hz2 z0
  go_wp2_with (refine wpList_copy_rows _ rfl _ _ 130 130 rfl 137 i0 4 Tryd.underlying130 HI0.out HZ1.out R (i * 4) _ _ ⟨vb, 0, none⟩ 1 1 rfl rfl _ _ HR1.out 1 ?g1 x.cells ?g2 ?g3 ?g4 (pd_ones x hx1) ?_)
  case g1 => exact (Nat.min_eq_left (by omega)).symm
  case g2 => rfl
  case g3 =>
    intro j u hu
    rw [add_none rfl]
    exact cell_obj (HL1.out.obj HV.out) (by simpa using hu)
  case g4 =>
    have a := HX3.out; have b := HZ.out; have d := HC1.out
    simp only [List.size_toArray, List.length_append, a, b, PD.cells, List.length_cons, List.length_nil]
    omega
  intro w2 h2 hk2
  obtain ⟨c1, hc1⟩ : ∃ c1, c1 = (xs.take (i * 4) ++ Z).take (i * 4) ++ x.cells ++ (xs.take (i * 4) ++ Z).drop (i * 4 + x.cells.length) := ⟨_, rfl⟩
  rw [← List.append_assoc, ← hc1] at h2
  have HC := hid hc1; have HR2 := hid h2; have HK2 := hid hk2
  clear hc1 h2 hk2
  have hcapi : ¬ cap = i := by omega
  have hw3 : IntKind.i64.wrap ((i : Int) + 1) = ((i + 1 : Nat) : Int) := by have := HB.out; clear hw hwk; rw [IntKind.wrap_i64]; omega
  have hci3 : ¬ c = i + 1 := by have := HC1.out; have := HI.out; omega
  have hic3 : i + 1 ≤ cap + 1 := by omega
  have HL1C : Hid (c1.length = c * 4) := hid (by
    have a := HX3.out; have b := HZ.out; have d := HC1.out
    rw [HC.out]
    simp only [List.length_append, List.length_take, List.length_drop, a, b, PD.cells, List.length_cons, List.length_nil]
    omega)
  go_upto_region 11 with (fail)
  refine wp_region_plan (by kernel_rfl) (by kernel_rfl) [] [8] (by kernel_rfl) (fun _ _ d _ _ h => by cases d <;> exact h) (Later) (Later.refl) (Later.trans) (fun _ => none) (fun _ _ _ _ _ h => by cases h) ?_
  simp only [body, tail, numbered, Nat.reduceAdd, List.filter_cons, List.filter_nil, List.contains_cons, List.contains_nil, Nat.reduceBEq, Bool.or_false, Bool.or_true, Bool.false_or, Bool.true_or, Bool.not_true, Bool.not_false, Bool.and_true, Bool.and_false, Bool.true_and, Bool.false_and, if_true, if_false, reduceIte, Bool.false_eq_true, List.map_cons, List.map_nil]
  simp only [Pures]
  refine LexS.out ?_
  iterate 8
    first
    | (refine LexS.skip rfl ?_; simp only [Act.put, List.setIfInBounds_toArray, List.set])
    | (refine LexS.one' rfl rfl ?_
       apply Exists.intro
       refine ⟨fun w hR hF => ?_, ?_⟩
       · have hP := hR
         repeat (first | replace hP := Later.of_drew hP | replace hP := Later.of_drewN hP | replace hP := Later.of_alloc hP)
         have hcs := hR.cells
         clear hR hF hP
         go_simp
         first | done | rfl
       simp only [Act.put, List.setIfInBounds_toArray, List.set])
  refine LexS.nil ?_
  intro w3 hR3 hF9
  clear hF9
  repeat (first | replace hR3 := Later.of_drew hR3 | replace hR3 := Later.of_drewN hR3 | replace hR3 := Later.of_alloc hR3)
  have HL3 := hid hR3
  clear hR3
  change wpList _ _ _ _ _ _
  refine wpList_copy_rows _ rfl _ _ 130 130 rfl 137 i0 4 Tryd.underlying130 HI0.out HZ1.out R ((i + 1) * 4) _ _ ⟨g, i * 4, none⟩ (cap - i) _ rfl rfl _ _ (HL3.out.obj HR2.out) (cap - i) ?h1 (xs.drop (i * 4)) ?h2 ?h3 ?h4 ?h5 ?_
  case h1 => exact (Nat.min_eq_left (Nat.le_refl _)).symm
  case h2 => have := HO.out.1; rw [List.length_drop]; omega
  case h3 =>
    intro j u hu
    rw [add_none rfl]
    rw [List.getElem?_drop] at hu
    have h := HO.out.cells (g := g) rfl (i * 4 + j) u hu
    rw [add_none rfl] at h
    have hg : g ≠ R := by have h1 : g < w.heap.size := cell_lt h; have := HRS.out; omega
    have := HL3.out.cell (HK2.out.cell hg (HL1.out.cell h))
    simpa using this
  case h4 =>
    have a := HL1C.out; have b := HO.out.1; have d := HC1.out
    simp only [List.size_toArray, List.length_drop]
    omega
  case h5 => exact fun v hv => HON.out v (List.mem_of_mem_drop hv)
  intro w4 h4 hk4
  obtain ⟨c2, hc2⟩ : ∃ c2, c2 = c1.take ((i + 1) * 4) ++ xs.drop (i * 4) ++ c1.drop ((i + 1) * 4 + (xs.drop (i * 4)).length) := ⟨_, rfl⟩
  replace h4 : w4.heap[R]? = some (.cells c2.toArray 137 (0, 0)) := by rw [hc2]; exact h4
  have HC2' := hid hc2; have HR4 := hid h4
  have HLX : Hid (Later w w4) := hid (((((HL1.out.keeps (fun b => b ≠ R)).trans HK2.out).trans (HL3.out.keeps _)).trans hk4).mono (S' := fun _ => True) (fun k hk _ => by rw [HRS.out]; omega) |>.later)
  clear hc2 h4 hk4
  go_wp2_with fail
  go_ret
  have hx := ins_new (Z := Z) (xs := xs) (news := x.cells) (o := i * 4) (s := 4) (m := cap * 4) HO.out.1 (by have := HI.out; omega) rfl (by have a := HZ.out; have b := HC1.out; have := HI.out; omega) rfl HC.out (c2 := c2) (by rw [HC2'.out, Nat.add_mul, Nat.one_mul])
  refine ⟨.slice (some ⟨R, 0, none⟩) (cap + 1) c, rfl, ⟨?_, .inr ⟨R, c, c2.toArray, rfl, by have := HRS.out; have := HBS.out; omega, HR4.out, HC1.out, HC2.out, ?_, ?_⟩⟩, HLX.out.keeps _, .inr fun b hb => ?_⟩
  · rw [← hx.2]
    have := hx.1
    have a := HX3.out; have b := HZ.out; have d := HC1.out
    rw [List.length_take, this, List.length_append, a, b]
    omega
  · have a := HX3.out; have b := HZ.out; have d := HC1.out
    rw [List.size_toArray, hx.1, List.length_append, a, b]
    omega
  · rw [Nat.add_mul]
    exact hx.2
  · have hb' : some R = some b := hb
    injection hb' with hb'
    rw [← hb', HRS.out]
    exact Nat.le_refl _

set_option maxRecDepth 100000 in
set_option maxHeartbeats 2000000 in
/-- room: in place. -/
theorem insP_room_any (x : PD) (hx1 : x.rv.oneCell' = true) (n i g cap : Nat) (xs : List Value) (base vb : Nat) (T : TypeId) (w : World) (hown : w.ownsRow base 137 4 (.slice (some ⟨g, 0, none⟩) n cap) n xs) (hvb : w.heap[vb]? = some (.cells x.cells.toArray T (0, 0))) (hne : vb ≠ g) (hones : ∀ u ∈ xs, u.oneCell' = true)
    (hi : i < n) (hroom : n + 1 ≤ cap) (hbig : (n + 1) * 56 ≤ 140737488355328) :
    Calls Tryd.prog 70 #[.slice (some ⟨g, 0, none⟩) n cap, .int .i64 i, .slice (some ⟨vb, 0, none⟩) 1 1] w (InsPTo w base n (.slice (some ⟨g, 0, none⟩) n cap) (xs.take (i * 4) ++ x.cells ++ xs.drop (i * 4))) := by
  obtain ⟨hxl, ⟨h, -⟩ | ⟨g', cap', cur, h, hbg, hg, hnc, hcm, hcs, htk⟩⟩ := hown
  · cases h
  simp only [Value.slice.injEq, Option.some.injEq, Addr.mk.injEq, and_true, true_and] at h
  obtain ⟨rfl, rfl⟩ := h
  have HV := hid hvb; have HB := hid hbig; have HN := hid hne; have HON := hid hones
  have HXL := hid hxl; have HBG := hid hbg; have HG := hid hg; have HCM := hid hcm; have HCS := hid hcs; have HTK := hid htk; have HRM := hid hroom
  have hw : IntKind.i64.wrap ((n : Int) + 1) = (n : Int) + 1 := by rw [IntKind.wrap_i64]; omega
  have hw3 : IntKind.i64.wrap ((i : Int) + 1) = ((i + 1 : Nat) : Int) := by clear hw; rw [IntKind.wrap_i64]; omega
  have hic : ¬ ((i : Int) = (n : Int)) := by omega
  have hnr : ¬ ((cap : Int) < (n : Int) + 1) := by omega
  have hci : ¬ cap = i := by omega
  have hci3 : ¬ cap = i + 1 := by omega
  have hic2 : i ≤ n + 1 := by omega
  have hic3 : i + 1 ≤ n + 1 := by omega
  have hn1 : (n : Int) + 1 ≤ (cap : Int) := by omega
  have h0n : (0 : Int) ≤ (n : Int) + 1 := by omega
  have hin1 : (i : Int) ≤ (n : Int) + 1 := by omega
  have htn : ((n : Int) + 1).toNat = n + 1 := by omega
  have HI := hid hi
  have hile : i ≤ n := Nat.le_of_lt hi
  obtain ⟨i0, z0, hi0, hz0, hz1, hz2, -, -⟩ := pdElem.ex
  have hsz : ∀ w, (Go.sizeOf 137).run Tryd.prog w = .ok 4 w := fun w => by simp [Go.sizeOf, typeInfo, hi0, hz1]
  have hov : ∀ lb cb (w' : World), w'.heap = w.heap → (callFunc 99 #[.slice (some ⟨vb, 0, none⟩) 1 1, .slice (some ⟨g, (i + 1) * 4, none⟩) lb cb]).run Tryd.prog w' = .ok (.value (.bool false)) w' := fun lb cb w' hh => by
    rw [run_callFunc_extern Tryd.func99 (by kernel_rfl) (by kernel_rfl) (by kernel_rfl) (e := Extern.SlicesOverlaps.overlaps #[130, 130] #[4]) (by kernel_rfl),
      Lib.run_overlaps_apart w' 130 4 137 Tryd.underlying130 4 hsz ⟨vb, 0, none⟩ ⟨g, (i + 1) * 4, none⟩ 1 1 lb cb HN.out T 137 4 cur.size ?_ ?_ ?_ ?_ ?_]
    · rfl
    · simp only [World.shape?, hh, hvb, List.size_toArray]; rfl
    · simp only [World.shape?, hh, hg]
    · rw [hcs]; omega
    · simp [World.frozen?, hh, hvb]
    · simp [World.frozen?, hh, hvb]
  have HOV := hid hov
  have HI0 := hid hi0; have HZ1 := hid hz1
  clear hov hi0 hz0 hz1 hz2 z0 hsz hvb hbig hne hones hxl hbg hg hcm hcs htk hroom hi hnc
  go_enter Tryd.func70, Tryd.ntmps70
  go_upto_region 14 with (fail)
  have hov := fun lb cb => HOV.out lb cb w rfl
  go_wp2_with (simp only [hov])
  clear hov
  refine wp_region_plan (by kernel_rfl) (by kernel_rfl) [] [8] (by kernel_rfl) (fun _ _ d _ _ h => by cases d <;> exact h) (Later) (Later.refl) (Later.trans) (fun _ => none) (fun _ _ _ _ _ h => by cases h) ?_
  simp only [body, tail, numbered, Nat.reduceAdd, List.filter_cons, List.filter_nil, List.contains_cons, List.contains_nil, Nat.reduceBEq, Bool.or_false, Bool.or_true, Bool.false_or, Bool.true_or, Bool.not_true, Bool.not_false, Bool.and_true, Bool.and_false, Bool.true_and, Bool.false_and, if_true, if_false, reduceIte, Bool.false_eq_true, List.map_cons, List.map_nil]
  simp only [Pures]
  refine LexS.out ?_
  iterate 8
    first
    | (refine LexS.skip rfl ?_; simp only [Act.put, List.setIfInBounds_toArray, List.set])
    | (refine LexS.one' rfl rfl ?_
       apply Exists.intro
       refine ⟨fun w hR hF => ?_, ?_⟩
       · have hP := hR
         repeat (first | replace hP := Later.of_drew hP | replace hP := Later.of_drewN hP | replace hP := Later.of_alloc hP)
         have hcs := hR.cells
         clear hR hF hP
         go_simp
         first | done | rfl
       simp only [Act.put, List.setIfInBounds_toArray, List.set])
  refine LexS.nil ?_
  intro w3 hR3 hF9
  clear hF9
  repeat (first | replace hR3 := Later.of_drew hR3 | replace hR3 := Later.of_drewN hR3 | replace hR3 := Later.of_alloc hR3)
  have HL3 := hid hR3
  clear hR3
  change wpList _ _ _ _ _ _
  refine wpList_copy_rows _ rfl _ _ 130 130 rfl 137 i0 4 Tryd.underlying130 HI0.out HZ1.out g ((i + 1) * 4) _ _ ⟨g, i * 4, none⟩ (n + 1 - i) _ rfl rfl _ _ (HL3.out.obj HG.out) (n - i) ?h1 (xs.drop (i * 4)) ?h2 ?h3 ?h4 ?h5 ?_
  case h1 => exact (Nat.min_eq_right (by have := HI.out; omega)).symm
  case h2 => have := HXL.out; rw [List.length_drop]; omega
  case h3 =>
    intro j u hu
    rw [add_none rfl]
    rw [List.getElem?_drop] at hu
    refine cell_obj (HL3.out.obj HG.out) ?_
    rw [← HTK.out, List.getElem?_take] at hu
    split at hu
    · simpa using hu
    · cases hu
  case h4 =>
    have b := HXL.out; have d := HRM.out; have e := HCS.out; have f := HI.out
    simp only [List.length_drop]
    omega
  case h5 => exact fun v hv => HON.out v (List.mem_of_mem_drop hv)
  intro w4 h4 hk4
  obtain ⟨c1, hc1⟩ : ∃ c1, c1 = cur.toList.take ((i + 1) * 4) ++ xs.drop (i * 4) ++ cur.toList.drop ((i + 1) * 4 + (xs.drop (i * 4)).length) := ⟨_, rfl⟩
  rw [← hc1] at h4
  have HC1 := hid hc1; have HR4 := hid h4
  have HK4 := hid ((HL3.out.keeps (fun b => b ≠ g)).trans hk4)
  have HL1C : Hid (c1.length = cap * 4) := hid (by
    have b := HXL.out; have d := HRM.out; have e := HCS.out; have f := HI.out
    rw [HC1.out]
    simp only [List.length_append, List.length_take, List.length_drop, Array.length_toList]
    omega)
  clear hc1 h4 hk4
  go_wp2_with (refine wpList_copy_rows _ rfl _ _ 130 130 rfl 137 i0 4 Tryd.underlying130 HI0.out HZ1.out g (i * 4) _ _ ⟨vb, 0, none⟩ 1 1 rfl rfl _ _ HR4.out 1 ?k1 x.cells ?k2 ?k3 ?k4 (pd_ones x hx1) ?_)
  case k1 => exact (Nat.min_eq_left (by omega)).symm
  case k2 => rfl
  case k3 =>
    intro j u hu
    rw [add_none rfl]
    exact cell_obj (HK4.out.obj HN.out HV.out) (by simpa using hu)
  case k4 =>
    have d := HRM.out; have e := HL1C.out; have f := HI.out
    simp only [List.size_toArray, e, PD.cells, List.length_cons, List.length_nil]
    omega
  intro w5 h5 hk5
  obtain ⟨c2, hc2⟩ : ∃ c2, c2 = c1.take (i * 4) ++ x.cells ++ c1.drop (i * 4 + x.cells.length) := ⟨_, rfl⟩
  replace h5 : w5.heap[g]? = some (.cells c2.toArray 137 (0, 0)) := by rw [hc2]; simpa using h5
  have HC2' := hid hc2; have HR5 := hid h5
  have HK5 := hid (HK4.out.trans hk5)
  clear hc2 h5 hk5
  go_wp2_with fail
  go_ret
  have hx := ins_up (cur := cur.toList) (xs := xs) (news := x.cells) (o := i * 4) (s := 4) (m := n * 4) HTK.out HXL.out (by have := HI.out; omega) rfl (by have a := HCS.out; have b := HRM.out; simp only [Array.length_toList]; omega) (c1 := c1) (by rw [HC1.out, Nat.add_mul, Nat.one_mul]) HC2'.out
  refine ⟨.slice (some ⟨g, 0, none⟩) (n + 1) cap, rfl, ⟨?_, .inr ⟨g, cap, c2.toArray, rfl, HBG.out, HR5.out, HRM.out, HCM.out, ?_, ?_⟩⟩, HK5.out.mono fun b _ hb e => hb (by rw [e]; rfl), .inl rfl⟩
  · rw [← hx.2]
    have a := hx.1; have b := HCS.out; have d := HRM.out
    rw [List.length_take, a, Array.length_toList]
    omega
  · rw [List.size_toArray, hx.1, Array.length_toList]
    exact HCS.out
  · rw [Nat.add_mul]
    exact hx.2
theorem pdCells_ones {l : List PD} (h : OneP l) : ∀ u ∈ pdCells l, u.oneCell' = true := by
  intro u hu
  obtain ⟨y, hy, hu⟩ := List.mem_flatMap.1 hu
  exact pd_ones y (h y hy) u hu
theorem pdCells_take (l : List PD) (i : Nat) : (pdCells l).take (i * 4) = pdCells (l.take i) := by
  induction l generalizing i with
  | nil => simp [pdCells]
  | cons y l ih =>
    cases i with
    | zero => simp [pdCells]
    | succ i =>
      have := ih i
      unfold pdCells at *
      rw [List.take_succ_cons, List.flatMap_cons, List.flatMap_cons, show (i + 1) * 4 = y.cells.length + i * 4 by simp [PD.cells]; omega, List.take_length_add_append, this]
theorem pdCells_drop (l : List PD) (i : Nat) : (pdCells l).drop (i * 4) = pdCells (l.drop i) := by
  induction l generalizing i with
  | nil => simp [pdCells]
  | cons y l ih =>
    cases i with
    | zero => simp [pdCells]
    | succ i =>
      have := ih i
      unfold pdCells at *
      rw [List.drop_succ_cons, List.flatMap_cons, show (i + 1) * 4 = y.cells.length + i * 4 by simp [PD.cells]; omega, List.drop_length_add_append, this]
theorem insP_any (x : PD) (hx1 : x.rv.oneCell' = true) (l : List PD) (h1 : OneP l) (i : Nat) (v : Value) (base vb : Nat) (T : TypeId) (w : World) (hown : w.ownsRow base 137 4 v l.length (pdCells l)) (hvb : w.heap[vb]? = some (.cells x.cells.toArray T (0, 0))) (hne : v.ownBlock ≠ some vb)
    (hi : i ≤ l.length) (hbig : (l.length + 1) * 56 ≤ 140737488355328) (hbase : base ≤ w.heap.size) :
    Calls Tryd.prog 70 #[v, .int .i64 i, .slice (some ⟨vb, 0, none⟩) 1 1] w (InsPTo w base l.length v (pdCells (l.take i ++ x :: l.drop i))) := by
  have e : pdCells (l.take i ++ x :: l.drop i) = (pdCells l).take (i * 4) ++ x.cells ++ (pdCells l).drop (i * 4) := by
    rw [pdCells_take, pdCells_drop]
    simp [pdCells, List.flatMap_append, List.flatMap_cons]
  rcases Nat.lt_or_ge i l.length with h | h
  · rcases hown.2 with ⟨rfl, h0⟩ | ⟨g, cap, cur, rfl, -⟩
    · omega
    · rw [e]
      have hg : vb ≠ g := fun e => hne (by rw [e]; rfl)
      rcases Nat.lt_or_ge cap (l.length + 1) with hc | hc
      · exact insP_new_any x hx1 l.length i g cap _ base vb T w hown hvb hg (pdCells_ones h1) h hc hbig hbase
      · exact insP_room_any x hx1 l.length i g cap _ base vb T w hown hvb hg (pdCells_ones h1) h hc hbig
  · have : i = l.length := by omega
    subst this
    rw [e, List.take_of_length_le (by rw [pdCells_length]; exact Nat.le_refl _), List.drop_of_length_le (by rw [pdCells_length]; exact Nat.le_refl _), List.append_nil]
    exact insP_end x hx1 l.length _ v base vb T w hown hvb hbig hbase
end Go.Proofs.YtcmpjdnbjhkhdaaDoor
