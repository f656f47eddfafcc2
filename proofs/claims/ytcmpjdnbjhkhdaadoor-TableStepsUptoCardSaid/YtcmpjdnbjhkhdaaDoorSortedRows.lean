/-
  PROVED HERE: the contract of value.Sorted: copies of the rows in their order, each with values of its own.
-/
import Derived.Test.YtcmpjdnbjhkhdaaDoorSortRows
import Derived.Test.YtcmpjdnbjhkhdaaDoorOwnLaws
import Derived.Test.YtcmpjdnbjhkhdaaDoorClone
import Derived.Test.YtcmpjdnbjhkhdaaDoorApp
import Derived.Test.YtcmpjdnbjhkhdaaDoorFrame
namespace Go.Proofs.YtcmpjdnbjhkhdaaDoor
set_option linter.unusedSimpArgs false
set_option linter.unusedVariables false
open Go.RowKit

theorem rowInfo : (Tryd.prog.info? 79).map (fun i => (i.zero, i.size, i.bytes)) = some (some (.agg #[.int .i64 0, .slice none 0 0]), 2, 32) := by kernel_rfl
theorem rowElem : ElemInfo Tryd.prog 79 2 32 := ElemInfo.of rowInfo rfl (by decide)
/-- rows each of which has its values in a slice of its own. -/
structure DeepR (B : Nat) (w : World) (l : List RX) : Prop where
  own : ∀ x ∈ l, w.ownsRow B 25 3 x.v x.row.vals.length (valCells x.row.vals)
  apart : l.Pairwise fun x y => ∀ b, x.v.ownBlock = some b → y.v.ownBlock ≠ some b
theorem DeepR.nil (B : Nat) (w : World) : DeepR B w [] := ⟨fun x hx => (by cases hx), List.Pairwise.nil⟩
theorem DeepR.keep {B : Nat} {S : Nat → Prop} {w w' : World} {l : List RX} (h : DeepR B w l) (k : Keeps S w w') (hs : ∀ x ∈ l, ∀ b, x.v.ownBlock = some b → S b) : DeepR B w' l :=
  ⟨fun x hx => owns_keep (h.own x hx) k (hs x hx), h.apart⟩
theorem DeepR.later {B : Nat} {w w' : World} {l : List RX} (h : DeepR B w l) (k : Later w w') : DeepR B w' l := ⟨fun x hx => owns_at (h.own x hx) k, h.apart⟩
theorem DeepR.perm {B : Nat} {w : World} {l l' : List RX} (h : DeepR B w l) (p : l'.Perm l) : DeepR B w l' :=
  ⟨fun x hx => h.own x (p.mem_iff.1 hx), p.symm.pairwise h.apart fun k b hb hb' => k b hb' hb⟩
theorem DeepR.off {B B' : Nat} {w : World} {l : List RX} {v : Value} {xs : List RX} (h : DeepR B w l) (k : OwnR B' w v xs) : ∀ x ∈ l, ∀ b, x.v.ownBlock = some b → some b ≠ v.ownBlock :=
  fun x hx b hb hv => own_apart k (h.own x hx) (by decide) b hv.symm hb
theorem DeepR.snoc {B : Nat} {w : World} {l : List RX} {x : RX} (h : DeepR B w l) (k : w.ownsRow B 25 3 x.v x.row.vals.length (valCells x.row.vals)) (ha : ∀ y ∈ l, ∀ b, y.v.ownBlock = some b → x.v.ownBlock ≠ some b) : DeepR B w (l ++ [x]) :=
  ⟨fun y hy => (List.mem_append.1 hy).elim (h.own y) fun e => by obtain rfl := List.mem_singleton.1 e; exact k,
   List.pairwise_append.2 ⟨h.apart, List.pairwise_singleton _ _, fun y hy z hz => by obtain rfl := List.mem_singleton.1 hz; exact ha y hy⟩⟩
theorem DeepR.held {B B' : Nat} {w : World} {l : List RX} {xs : List RX} {g n c : Nat} (h : DeepR B w l) (k : w.ownsRow B' 79 2 (.slice (some ⟨g, 0, none⟩) n c) xs.length (rxCells xs)) : ∀ x ∈ l, Held w g x :=
  fun x hx => (owned_vals_at (h.own x hx)).map fun b _ _ hb hx' => ⟨fun e => by subst e; exact own_apart k (h.own x hx) (by decide) b rfl hb, hx'⟩
theorem row_ones (x : RX) (hx : ∃ a n c, x.v = .slice a n c) : ∀ u ∈ [Value.int .i64 x.row.time, x.v], u.oneCell' = true := by
  intro u hu
  simp only [List.mem_cons, List.not_mem_nil, or_false] at hu
  rcases hu with rfl | rfl
  · rfl
  · obtain ⟨a, n, c, e⟩ := hx
    rw [e]; rfl
def SortedTo (w : World) (l : List Row) (e : Ending) (w' : World) : Prop :=
  ∃ v xs, e = .returned v ∧ OwnR w.heap.size w' v xs ∧ DeepR w.heap.size w' xs ∧ (xs.map (·.row)).Perm l ∧ SortedR (xs.map (·.row)) ∧ Later w w'
set_option maxRecDepth 100000 in
set_option maxHeartbeats 4000000 in
theorem sorted_rows (l : List Row) (v : Value) (w : World) (hv : IsRows w v l) (hl : l.length * 32 ≤ 140737488355328) (hr : ∀ x ∈ l, x.vals.length * 32 ≤ 140737488355328) :
    Calls Tryd.prog 71 #[v] w (SortedTo w l) := by
  have HLL := hid hl; have HR := hid hr
  obtain ⟨p, c, rfl, hlc, hcm, hnil, he⟩ := hv
  have HE := hid he
  clear hl hr he hnil hlc hcm
  go_enter Tryd.func71, Tryd.ntmps71
  go_wp2_with (at_make; go_loud (refine wpList_make0 (n := l.length) rfl _ _ 73 rfl w.heap.size 79 2 32 Tryd.underlying73 rowElem rfl rfl ?m1 ?m2 ?m3 (Nat.le_refl _) ?_))
  case m1 => rfl
  case m2 => have := HLL.out; omega
  case m3 => have := HLL.out; unfold maxLen; omega
  intro w1 hown hgrow
  have HL1 := hid (grown_none hgrow)
  have HO1 := hid hown
  clear hown hgrow
  go_wp2_with fail
  obtain ⟨R1, hR1⟩ : ∃ RR_ : (Nat → Value) → World → Prop, RR_ = (fun us wx => ∃ (k : Nat) (xs : List RX) (a : Option Addr) (c : Nat), us 11 = .int .i64 k ∧ us 3 = .slice a xs.length c ∧ k ≤ l.length ∧ xs.map (·.row) = l.take k ∧ OwnR w.heap.size wx (.slice a xs.length c) xs ∧ DeepR w.heap.size wx xs ∧ Later w wx) := ⟨_, rfl⟩
  obtain ⟨mu1, hmu1⟩ : ∃ mu : (Nat → Value) → World → Nat, mu = (fun us _ => l.length - (intOf (us 11)).toNat) := ⟨_, rfl⟩
  have HR1 := hid hR1; have Hmu1 := hid hmu1; clear hR1 hmu1
  refine wp_loop_frame' [false, false, false, true, false, true, false, false, false, false, false, true, true, true, true, true, true, true, true, true, true] R1 _ mu1 HR1.out ?_ ?_
  · exact ⟨0, [], _, _, rfl, rfl, Nat.zero_le _, rfl, HO1.out, DeepR.nil _ _, HL1.out⟩
  clear HO1 HL1
  intro us1 wx hrel
  obtain ⟨k, xs, a, c1, h11, h3, hk, hm, ho, hd, hL⟩ := hrel
  simp only [frameOf, Nat.reduceAdd, h11, h3]
  have Hh11 := hid h11; clear h11
  have Hh3 := hid h3; clear h3
  have HK := hid hk; have HM := hid hm; have HO := hid ho; have HD := hid hd; have HL := hid hL
  have HXL : Hid (xs.length = k) := hid (by have := congrArg List.length hm; rw [List.length_map, List.length_take] at this; omega)
  clear hk hm ho hd hL
  by_cases hlt : k < l.length
  · have HLT := hid hlt
    have HWK : Hid (wrap64 ((k : Int) + 1) = ((k + 1 : Nat) : Int)) := hid (by have := HLL.out; unfold wrap64; omega)
    obtain ⟨b, o, rfl, -, p1, v1, p2, hv1⟩ := HE.out k hlt
    have HRK := hid (HR.out _ (List.getElem_mem hlt))
    have HTK : Hid (l.take (k + 1) = l.take k ++ [l[k]'HLT.out]) := hid (List.take_succ_eq_append_getElem hlt)
    replace p1 := HL.out.cell p1
    replace p2 := HL.out.cell p2
    have HV1 := hid (SliceOf.later hv1 HL.out)
    generalize l[k] = x at p1 p2 HV1 HRK HTK
    obtain ⟨tm, vs⟩ := x
    simp only at p1
    clear hv1
    obtain ⟨av, cv, e1, -⟩ := HV1.out
    subst e1
    simp only at p2
    have HVS : Hid (∃ a n c, Value.slice av vs.length cv = Value.slice a n c) := hid ⟨_, _, _, rfl⟩
    go_upto_region 5 with (fail)
    obtain ⟨w2, hw2⟩ : ∃ w2, w2 = wx.alloc (.cells #[.int .i64 tm, .slice av vs.length cv] 79 (0, 0)) := ⟨_, rfl⟩
    obtain ⟨T, hT⟩ : ∃ T, T = wx.heap.size := ⟨_, rfl⟩
    have hL2 : Later wx w2 := by rw [hw2]; exact Later.alloc _ _
    have hT2 : w2.heap[T]? = some (.cells #[.int .i64 tm, .slice av vs.length cv] 79 (0, 0)) := by rw [hw2, hT]; exact obj_new _ _
    rw [← hw2, ← hT]
    have HL2 := hid (Later.trans _ _ _ HL.out hL2)
    have HO2 := hid (owns_at HO.out hL2); have HD2 := hid (HD.out.later hL2)
    have HV2 := hid (SliceOf.later HV1.out hL2)
    have t0 := cell_obj (i := 0) hT2 (v := .int .i64 tm) rfl
    have t1 := cell_obj (i := 1) hT2 (v := .slice av vs.length cv) rfl
    clear hw2 hT hL2 hT2 p1 p2 HV1 HL HO HD
    go_wp2_with fail
    refine (clone_row tm vs _ _ (HV2.out.vals_mono fun _ _ => trivial) HRK.out).mono ?_
    rintro e w3 ⟨v3, rfl, hov, hL3⟩
    obtain ⟨a3, c3, rfl⟩ := hov.slice
    have HX3 := hid hov.1
    have HL3 := hid (Later.trans _ _ _ HL2.out hL3)
    have HO3 := hid (owns_at HO2.out hL3); have HD3 := hid (HD2.out.later hL3)
    have HS2 := hid HL2.out.size
    have HFR : Hid (∀ y ∈ xs, ∀ b, y.v.ownBlock = some b → (Value.slice a3 vs.length c3).ownBlock ≠ some b) := hid (fun y hy b hb hb' => by
      have h1 := (ownb (HD2.out.own y hy) b hb).2
      have h2 := (ownb HX3.out b hb').1
      omega)
    clear hov hL3 HL2 HO2 HD2 HV2 t0 t1
    go_wp2_with (at_builtin; go_loud (refine wpList_append_obj rfl _ _ 73 rfl 79 2 32 Tryd.underlying73 rowElem rfl (owns_at HO3.out (Later.alloc _ _)) (news := [.int .i64 tm, .slice a3 vs.length c3]) rfl (obj_at (by simp)) rfl (row_ones ⟨⟨tm, vs⟩, .slice a3 vs.length c3⟩ ⟨_, _, _, rfl⟩) ?c1 ?c2 ?c3 ?_))
    case c1 => have := HXL.out; have := HLT.out; have := HLL.out; omega
    case c2 => have := HXL.out; have := HLT.out; have := HLL.out; unfold maxLen; omega
    case c3 => have := HL3.out.size; simp only [World.size_alloc]; omega
    intro v7 w7 hA7
    have hal := Later.alloc w3 (.cells #[.int .i64 tm, .slice a3 vs.length c3] 79 (0, 0))
    obtain ⟨y, hy⟩ : ∃ y : RX, y = ⟨⟨tm, vs⟩, .slice a3 vs.length c3⟩ := ⟨_, rfl⟩
    have hoA := owns_at HO3.out hal
    have hdA := HD3.out.later hal
    have hxA : _ := own_base (owns_at HX3.out hal) HS2.out
    have hL7 := hA7.later hoA (Later.trans _ _ _ HL3.out hal) (Nat.le_refl _)
    have hd7 : DeepR w.heap.size w7 (xs ++ [y]) := by
      refine (hdA.keep hA7.keeps (hdA.off hoA)).snoc ?_ ?_
      · rw [hy]
        exact owns_keep hxA hA7.keeps fun b hb hv => own_apart hoA hxA (by decide) b hv.symm hb
      · rw [hy]; exact HFR.out
    have ho7 : w7.ownsRow w.heap.size 79 2 v7 (xs ++ [y]).length (rxCells (xs ++ [y])) := by
      have := hA7.own
      rw [rxCells_app, List.length_append, hy]
      exact this
    have hm7 : (xs ++ [y]).map (·.row) = l.take (k + 1) := by
      rw [List.map_append, HM.out, HTK.out, hy]; rfl
    obtain ⟨a7, c7, rfl⟩ := ownsRow_slice ho7
    have HL7 := hid hL7; have HD7 := hid hd7; have HO7 := hid ho7; have HM7 := hid hm7
    clear hA7 hal hy hoA hdA hxA hL7 hd7 ho7 hm7
    go_wp2_with fail
    try simp only [HWK.out]
    refine Round.mk' HR1.out Hmu1.out rfl ?_ ?_
    · exact ⟨k + 1, xs ++ [y], a7, c7, rfl, rfl, HLT.out, HM7.out, HO7.out, HD7.out, HL7.out⟩
    · rw [Hh11.out]; have := HLT.out; simp [intOf, slots]; omega
  · have hke : k = l.length := by have := HK.out; omega
    have HPM : Hid (xs.map (·.row) = l) := hid (by rw [HM.out, hke, List.take_length])
    have HBX : Hid (xs.length < 4611686018427387904) := hid (by have := HXL.out; have := HLL.out; omega)
    clear hke
    go_wp2_with fail
    refine (sort_rows w.heap.size a c1 xs wx HO.out (fun g hg => by subst hg; exact HD.out.held HO.out) HBX.out).mono ?_
    rintro e w9 ⟨rfl, xs', ho9, hp9, hs9, hk9⟩
    have hd9 : DeepR w.heap.size w9 xs' := (HD.out.keep hk9 (HD.out.off HO.out)).perm hp9
    have hL9 : Later w w9 := later_keep HL.out (hk9.mono (S' := fun b => b < w.heap.size) fun b _ hb => own_lt HO.out hb) (Nat.le_refl _)
    have hll : xs'.length = xs.length := hp9.length_eq
    have HO9 := hid ho9; have HD9 := hid hd9; have HL9 := hid hL9; have HS9 := hid hs9
    have HP9 : Hid ((xs'.map (·.row)).Perm l) := hid (by rw [← HPM.out]; exact hp9.map _)
    clear ho9 hp9 hs9 hk9 hd9 hL9
    rw [← hll] at HO9 ⊢
    clear hll
    go_wp2_with fail
    go_ret
    exact ⟨_, xs', rfl, HO9.out, HD9.out, HP9.out, HS9.out, HL9.out⟩
end Go.Proofs.YtcmpjdnbjhkhdaaDoor
