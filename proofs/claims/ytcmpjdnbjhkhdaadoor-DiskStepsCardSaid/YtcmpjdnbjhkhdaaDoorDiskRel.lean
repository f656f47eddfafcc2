/-
  PROVED HERE: the disk and the law's list of files go together, step by step (no walk).
-/
import Derived.Test.YtcmpjdnbjhkhdaaDoorStepsPlain
namespace Go.Proofs.YtcmpjdnbjhkhdaaDoor
set_option linter.unusedSimpArgs false
set_option linter.unusedVariables false
open Go.RowKit

/-- blocks of the disk's own data. -/
def DataB (W0 : World) (N : Nat → Prop) (A M : Nat) (lv : Value) (b : Nat) : Prop := N b ∧ W0.heap.size ≤ b ∧ b ≠ A ∧ b ≠ M ∧ some b ≠ lv.ownBlock
structure DRel (W0 w : World) (N : Nat → Prop) (A M n : Nat) (f : List UInt8 → Option Value) (lv : Value) (F : List FE) : Prop where
  keep0 : Keeps (fun b => b < W0.heap.size) W0 w
  disk : DiskAt W0.heap.size w A M n f lv (looseF F)
  nA : N A
  nM : N M
  nl : ∀ g, lv.ownBlock = some g → N g
  nodup : (namesF F).Nodup
  none : ∀ k, k ∉ namesF F → f k = none
  some : ∀ x ∈ F, ∃ u, f x.name = some u ∧ BytesIn (DataB W0 N A M lv) w u x.data
/-- what came in of a file. -/
structure GoodF (W0 : World) (x : FE) : Prop where
  low : BytesIn (fun b => b < W0.heap.size) W0 x.dv x.data
  name : x.name.length ≤ maxLen
  data : x.data.length ≤ 140737488355328
def AllGood (W0 : World) (F : List FE) : Prop := ∀ x ∈ F, GoodF W0 x
variable {W0 w w' : World} {N N' : Nat → Prop} {A M n : Nat} {f : List UInt8 → Option Value} {lv : Value} {F : List FE}
theorem DRel.keep {S : Nat → Prop} (h : DRel W0 w N A M n f lv F) (k : Keeps S w w') (h0 : ∀ b, b < W0.heap.size → S b) (hN : ∀ b, N b → b < w.heap.size → S b) : DRel W0 w' N A M n f lv F where
  keep0 := h.keep0.trans (k.mono fun b _ hb => h0 b hb)
  disk := h.disk.keep k (hN A h.nA h.disk.lt) (hN M h.nM h.disk.map.lt) (fun g hg => hN g (h.nl g hg) (ownb h.disk.own g hg).2)
  nA := h.nA
  nM := h.nM
  nl := h.nl
  nodup := h.nodup
  none := h.none
  some := fun x hx => by
    obtain ⟨u, hu, hb⟩ := h.some x hx
    exact ⟨u, hu, SliceOf.map hb fun b o y hS hx => ⟨hS, k.cell (hN b hS.1 (cell_lt hx)) hx⟩⟩
theorem DRel.later (h : DRel W0 w N A M n f lv F) (k : Later w w') : DRel W0 w' N A M n f lv F := h.keep (k.keeps fun _ => True) (fun _ _ => trivial) (fun _ _ _ => trivial)
/-- another choice of blocks. -/
theorem DRel.renew (h : DRel W0 w N A M n f lv F) (hN : ∀ b, N b → b < w.heap.size → N' b) : DRel W0 w N' A M n f lv F where
  keep0 := h.keep0
  disk := h.disk
  nA := hN A h.nA h.disk.lt
  nM := hN M h.nM h.disk.map.lt
  nl := fun g hg => hN g (h.nl g hg) (ownb h.disk.own g hg).2
  nodup := h.nodup
  none := h.none
  some := fun x hx => by
    obtain ⟨u, hu, hb⟩ := h.some x hx
    exact ⟨u, hu, SliceOf.map hb fun b o y hS hx => ⟨⟨hN b hS.1 (cell_lt hx), hS.2⟩, hx⟩⟩
theorem mem_names {k : List UInt8} : k ∈ namesF F ↔ ∃ x ∈ F, x.name = k := by
  unfold namesF
  rw [List.mem_map]
theorem DRel.has (h : DRel W0 w N A M n f lv F) (k : List UInt8) : (f k).isSome = true ↔ k ∈ namesF F := by
  constructor
  · intro hk
    apply Classical.byContradiction
    intro hn
    rw [h.none k hn] at hk
    cases hk
  · intro hk
    obtain ⟨x, hx, rfl⟩ := mem_names.1 hk
    obtain ⟨u, hu, -⟩ := h.some x hx
    rw [hu]
    rfl
theorem DRel.hasNot (h : DRel W0 w N A M n f lv F) {k : List UInt8} (hk : k ∉ namesF F) : (f k).isSome = false := by rw [h.none k hk]; rfl
theorem DRel.start (h : DiskAt W0.heap.size w A M 0 (fun _ => Option.none) nilS []) (k : Later W0 w) (hA : N A) (hM : N M) : DRel W0 w N A M 0 (fun _ => Option.none) nilS [] :=
  ⟨k.keeps _, h, hA, hM, fun g hg => (by cases hg), List.nodup_nil, fun _ _ => rfl, fun x hx => by cases hx⟩
/-! sync -/
theorem stay_names (F : List FE) : namesF (F.map stay) = namesF F := by unfold namesF; rw [List.map_map]; rfl
theorem stay_loose : ∀ F : List FE, looseF (F.map stay) = []
  | [] => rfl
  | x :: F => by rw [List.map_cons, looseF_cons]; exact stay_loose F
theorem DRel.sync (h : DRel W0 w N A M n f lv F) (hd : DiskAt W0.heap.size w' A M n f nilS []) (k : Keeps (fun b => b ≠ A) w w') : DRel W0 w' N A M n f nilS (F.map stay) where
  keep0 := h.keep0.trans (k.mono fun b _ hb => by have := h.disk.geA; omega)
  disk := by rw [stay_loose]; exact hd
  nA := h.nA
  nM := h.nM
  nl := fun g hg => by cases hg
  nodup := by rw [stay_names]; exact h.nodup
  none := fun k hk => h.none k (by rw [stay_names] at hk; exact hk)
  some := fun x hx => by
    obtain ⟨y, hy, rfl⟩ := List.mem_map.1 hx
    obtain ⟨u, hu, hb⟩ := h.some y hy
    exact ⟨u, hu, SliceOf.map hb fun b o y hS hx => ⟨⟨hS.1, hS.2.1, hS.2.2.1, hS.2.2.2.1, fun e => by cases e⟩, k.cell hS.2.2.1 hx⟩⟩
theorem AllGood.stays (h : AllGood W0 F) : AllGood W0 (F.map stay) := fun x hx => by
  obtain ⟨y, hy, rfl⟩ := List.mem_map.1 hx
  exact ⟨(h y hy).low, (h y hy).name, (h y hy).data⟩
/-! remove -/
theorem DRel.remove {lv' : Value} (h : DRel W0 w N A M n f lv F) (k : List UInt8) (hd : DiskAt W0.heap.size w' A M n (upd f k Option.none) lv' ((looseF F).filter (otherB k))) (hk : Keeps (fun b => b ≠ A ∧ b ≠ M ∧ Option.some b ≠ lv.ownBlock) w w') (hl : lv'.ownBlock = lv.ownBlock) :
    DRel W0 w' N A M n (upd f k Option.none) lv' (F.filter fun y => otherB k y.name) where
  keep0 := h.keep0.trans (hk.mono fun b _ hb => ⟨by have := h.disk.geA; omega, by have := h.disk.geM; omega, fun e => by have := (ownb h.disk.own b e.symm).1; omega⟩)
  disk := by rw [← loose_filter]; exact hd
  nA := h.nA
  nM := h.nM
  nl := fun g hg => h.nl g (by rw [← hl]; exact hg)
  nodup := h.nodup.sublist (List.Sublist.map _ List.filter_sublist)
  none := fun x hx => by
    unfold upd
    split
    · rfl
    · rename_i hne
      refine h.none x fun hm => hx ?_
      obtain ⟨y, hy, rfl⟩ := mem_names.1 hm
      exact mem_names.2 ⟨y, List.mem_filter.2 ⟨hy, by unfold otherB; rw [eqB_false hne]; rfl⟩, rfl⟩
  some := fun x hx => by
    obtain ⟨h1, h2⟩ := List.mem_filter.1 hx
    obtain ⟨u, hu, hb⟩ := h.some x h1
    have hne : x.name ≠ k := fun e => by
      unfold otherB at h2
      rw [eqB_true.2 e] at h2
      cases h2
    refine ⟨u, by unfold upd; rw [if_neg hne]; exact hu, SliceOf.map hb fun b o y hS hx => ⟨⟨hS.1, hS.2.1, hS.2.2.1, hS.2.2.2.1, by rw [hl]; exact hS.2.2.2.2⟩, hk.cell ⟨hS.2.2.1, hS.2.2.2.1, hS.2.2.2.2⟩ hx⟩⟩
theorem filter_gone {k : List UInt8} (hk : k ∉ namesF F) : (F.filter fun y => otherB k y.name) = F := by
  rw [List.filter_eq_self]
  intro y hy
  unfold otherB
  rw [eqB_false, Bool.not_false]
  exact fun e => hk (mem_names.2 ⟨y, hy, e⟩)
theorem AllGood.filter (h : AllGood W0 F) (p : FE → Bool) : AllGood W0 (F.filter p) := fun x hx => h x (List.mem_filter.1 hx).1
/-! write -/
theorem looseF_app (F : List FE) (x : FE) (hx : x.loose = true) : looseF (F ++ [x]) = looseF F ++ [x.name] := by
  unfold looseF
  rw [List.filter_append, List.map_append, List.filter_cons, if_pos hx]
  rfl
theorem namesF_app (F : List FE) (x : FE) : namesF (F ++ [x]) = namesF F ++ [x.name] := by unfold namesF; rw [List.map_append]; rfl
theorem DRel.write {lv' u : Value} (h : DRel W0 w N A M n f lv F) (x : FE) (hx : x.loose = true) (hk : x.name ∉ namesF F) (hd : DiskAt W0.heap.size w' A M (n + 1) (upd f x.name (Option.some u)) lv' (looseF F ++ [x.name]))
    (hu : BytesIn (fun b => w.heap.size ≤ b ∧ Option.some b ≠ lv'.ownBlock ∧ b < w'.heap.size) w' u x.data)
    (hkp : Keeps (fun b => b ≠ A ∧ b ≠ M ∧ Option.some b ≠ lv.ownBlock) w w') (hl : lv'.ownBlock = lv.ownBlock ∨ ∀ g, lv'.ownBlock = Option.some g → w.heap.size ≤ g)
    (hN : ∀ b, N b → b < w.heap.size → N' b) (hN2 : ∀ b, w.heap.size ≤ b → b < w'.heap.size → N' b) :
    DRel W0 w' N' A M (n + 1) (upd f x.name (Option.some u)) lv' (F ++ [x]) where
  keep0 := h.keep0.trans (hkp.mono fun b _ hb => ⟨by have := h.disk.geA; omega, by have := h.disk.geM; omega, fun e => by have := (ownb h.disk.own b e.symm).1; omega⟩)
  disk := by rw [looseF_app F x hx]; exact hd
  nA := hN A h.nA h.disk.lt
  nM := hN M h.nM h.disk.map.lt
  nl := fun g hg => by
    have h2 := (ownb hd.own g hg).2
    rcases hl with hl | hl
    · rw [hl] at hg; exact hN g (h.nl g hg) (ownb h.disk.own g hg).2
    · exact hN2 g (hl g hg) h2
  nodup := by
    rw [namesF_app]
    refine List.nodup_append.2 ⟨h.nodup, by simp, ?_⟩
    intro a ha b hb e
    obtain rfl := List.mem_singleton.1 hb
    exact hk (e ▸ ha)
  none := fun k hk2 => by
    rw [namesF_app] at hk2
    unfold upd
    rw [if_neg (fun e => hk2 (by rw [e]; simp))]
    exact h.none k fun hm => hk2 (List.mem_append_left _ hm)
  some := fun y hy => by
    rcases List.mem_append.1 hy with hy | hy
    · obtain ⟨v, hv, hb⟩ := h.some y hy
      have hne : y.name ≠ x.name := fun e => hk (e ▸ mem_names.2 ⟨y, hy, rfl⟩)
      refine ⟨v, by unfold upd; rw [if_neg hne]; exact hv, SliceOf.map hb fun b o z hS hx => ?_⟩
      have hb := cell_lt hx
      refine ⟨⟨hN b hS.1 hb, hS.2.1, hS.2.2.1, hS.2.2.2.1, ?_⟩, hkp.cell ⟨hS.2.2.1, hS.2.2.2.1, hS.2.2.2.2⟩ hx⟩
      rcases hl with hl | hl
      · rw [hl]; exact hS.2.2.2.2
      · intro e; have := hl b e.symm; exact absurd hb (by simp only; omega)
    · obtain rfl := List.mem_singleton.1 hy
      refine ⟨u, by unfold upd; rw [if_pos rfl], SliceOf.map hu fun b o z hS hx => ⟨⟨hN2 b hS.1 hS.2.2, ?_, ?_, ?_, hS.2.1⟩, hx⟩⟩
      · exact Nat.le_trans h.keep0.size hS.1
      · intro e; have := h.disk.lt; omega
      · intro e; have := h.disk.map.lt; omega
/-! crash -/
theorem DRel.crash (h : DRel W0 w N A M n f lv F) (whole : Int) (hd : DiskAt W0.heap.size w' A M (n + 1) (crashN whole (looseF F) f (looseF F).length) nilS []) (hk : Keeps (fun b => b ≠ A ∧ b ≠ M) w w') :
    DRel W0 w' N A M (n + 1) (crashN whole (looseF F) f (looseF F).length) nilS (crashF whole.toNat 0 F) where
  keep0 := h.keep0.trans (hk.mono fun b _ hb => ⟨by have := h.disk.geA; omega, by have := h.disk.geM; omega⟩)
  disk := by
    have e : looseF (crashF whole.toNat 0 F) = [] := by
      unfold looseF
      rw [List.filter_eq_nil_iff.2 fun y hy => by rw [crashF_loose _ _ _ y hy]; simp]
      rfl
    rw [e]; exact hd
  nA := h.nA
  nM := h.nM
  nl := fun g hg => by cases hg
  nodup := h.nodup.sublist (crashF_sub _ _ _)
  none := fun k hk2 => by
    have hln := loose_nodup h.nodup
    by_cases hm : k ∈ namesF F
    · obtain ⟨x, hx, rfl⟩ := mem_names.1 hm
      rcases crashF_gone whole.toNat 0 F x hx with h1 | ⟨j, hj, hlt⟩
      · exact absurd h1 hk2
      · rw [crashN_in hln hj _ (List.getElem?_eq_some_iff.1 hj).1 (Nat.le_refl _), if_neg (by omega), if_neg (by omega)]
    · rw [crashN_out (fun hm2 => hm (by obtain ⟨x, hx, -, e⟩ := mem_loose.1 hm2; exact mem_names.2 ⟨x, hx, e⟩)) _ (Nat.le_refl _)]
      exact h.none k hm
  some := fun y hy => by
    have hln := loose_nodup h.nodup
    obtain ⟨x, hx, hc⟩ := crashF_mem whole.toNat 0 F y hy
    obtain ⟨u, hu, hb⟩ := h.some x hx
    have hb' : BytesIn (DataB W0 N A M nilS) w' u x.data := SliceOf.map hb fun b o z hS hx => ⟨⟨hS.1, hS.2.1, hS.2.2.1, hS.2.2.2.1, fun e => by cases e⟩, hk.cell ⟨hS.2.2.1, hS.2.2.2.1⟩ hx⟩
    rcases hc with ⟨hl, rfl⟩ | ⟨j, hj, ⟨hlt, rfl⟩ | ⟨he, rfl⟩⟩
    · refine ⟨u, ?_, hb'⟩
      show crashN whole (looseF F) f (looseF F).length x.name = _
      rw [crashN_out (not_loose h.nodup hx hl) _ (Nat.le_refl _)]
      exact hu
    · refine ⟨u, ?_, hb'⟩
      show crashN whole (looseF F) f (looseF F).length x.name = _
      rw [crashN_in hln hj _ (List.getElem?_eq_some_iff.1 hj).1 (Nat.le_refl _), if_pos (by omega)]
      exact hu
    · refine ⟨halfV u, ?_, SliceOf.half hb'⟩
      show crashN whole (looseF F) f (looseF F).length x.name = _
      rw [crashN_in hln hj _ (List.getElem?_eq_some_iff.1 hj).1 (Nat.le_refl _), if_neg (by omega), if_pos (by omega), hu]
      rfl
theorem halfS_low {S : Nat → Prop} {w : World} {v : Value} {l : List UInt8} (h : BytesIn S w v l) : BytesIn S w (halfS v) (l.take (l.length / 2)) := by
  obtain ⟨a, c, rfl, hl, hc, hn, he⟩ := h
  have hlen : (l.take (l.length / 2)).length = l.length / 2 := by rw [List.length_take]; omega
  refine ⟨a, c, by rw [hlen]; rfl, by omega, hc, hn, fun i hi => ?_⟩
  rw [hlen] at hi
  obtain ⟨b, o, rfl, hS, hx⟩ := he i (by omega)
  refine ⟨b, o, rfl, hS, ?_⟩
  have e : (l.take (l.length / 2))[i]'(by rw [hlen]; exact hi) = l[i]'(by omega) := by simp
  rw [e]
  exact hx
theorem AllGood.crash (h : AllGood W0 F) (W : Nat) : AllGood W0 (crashF W 0 F) := fun y hy => by
  obtain ⟨x, hx, hc⟩ := crashF_mem W 0 F y hy
  obtain ⟨h1, h2, h3⟩ := h x hx
  have hs : GoodF W0 (stay x) := ⟨h1, h2, h3⟩
  rcases hc with ⟨-, rfl⟩ | ⟨j, -, ⟨-, rfl⟩ | ⟨-, rfl⟩⟩
  · exact hs
  · exact hs
  · exact ⟨halfS_low h1, h2, Nat.le_trans (by show (x.data.take _).length ≤ x.data.length; rw [List.length_take]; omega) h3⟩
theorem AllGood.slF (h : AllGood W0 F) : SlF F := fun x hx => by
  obtain ⟨a, c, e, h1, h2, -, -⟩ := (h x hx).low
  exact ⟨a, x.data.length, c, e, h1, h2⟩
theorem AllGood.one (h : AllGood W0 F) : OneF F := fun x hx => by
  obtain ⟨a, c, e, -⟩ := (h x hx).low
  rw [e]; rfl
theorem DRel.slices (h : DRel W0 w N A M n f lv F) : ∀ k ∈ looseF F, ∃ a m c, f k = Option.some (.slice a m c) ∧ m ≤ c ∧ c ≤ maxLen := fun k hk => by
  obtain ⟨x, hx, -, rfl⟩ := mem_loose.1 hk
  obtain ⟨u, hu, a, c, e, h1, h2, -, -⟩ := h.some x hx
  exact ⟨a, x.data.length, c, by rw [hu, e], h1, h2⟩
theorem AllGood.names (h : AllGood W0 F) : ∀ k ∈ looseF F, k.length ≤ maxLen := fun k hk => by
  obtain ⟨x, hx, -, rfl⟩ := mem_loose.1 hk
  exact (h x hx).name
end Go.Proofs.YtcmpjdnbjhkhdaaDoor
