/-
  PROVED HERE: a table in memory, and what of it stays when it is turned; the contracts of table.New and find.
-/
import Derived.Test.YtcmpjdnbjhkhdaaDoorTabDel
import Derived.Test.YtcmpjdnbjhkhdaaDoorMapRaw
import Derived.Test.YtcmpjdnbjhkhdaaDoorSortedRows
import Derived.Test.YtcmpjdnbjhkhdaaDoorErr
namespace Go.Proofs.YtcmpjdnbjhkhdaaDoor
set_option linter.unusedSimpArgs false
set_option linter.unusedVariables false
open Go.RowKit

/-- a row whose values stand in blocks of the table that nobody writes. -/
def FixR (N Mut : Nat → Prop) (w : World) (x : RX) : Prop := ValsIn (fun b => N b ∧ ¬ Mut b) w x.v x.row.vals
structure TabAt (B : Nat) (N : Nat → Prop) (w : World) (A M n : Nat) (f : List UInt8 → Option Value) (h : List UInt8 → List RX) (pv : Value) (ps : List PD) (Mut : Nat → Prop) : Prop where
  obj : w.heap[A]? = some (.cells #[.map (some M), pv] 132 (0, 0))
  map : MapAt w M n f
  own : OwnP B w pv ps
  rise : RiseP ps
  ne : A ≠ M
  pvA : pv.ownBlock ≠ some A
  pvM : pv.ownBlock ≠ some M
  mA : Mut A
  mM : Mut M
  mP : ∀ b, pv.ownBlock = some b → Mut b
  mN : ∀ b, Mut b → N b
  nB : ∀ b, N b → B ≤ b
  mlt : ∀ b, Mut b → b < w.heap.size
  held : ∀ k u, f k = some u → OwnR B w u (h k) ∧ ∀ b, u.ownBlock = some b → Mut b ∧ b ≠ A ∧ b ≠ M ∧ pv.ownBlock ≠ some b
  gone : ∀ k, f k = none → h k = []
  apart : ∀ k k' u u' b, k ≠ k' → f k = some u → f k' = some u' → u.ownBlock = some b → u'.ownBlock ≠ some b
  vals : ∀ k, ∀ x ∈ h k, FixR N Mut w x
  pend : ∀ p ∈ ps, OwnR B w p.rv p.xs ∧ (∀ b, p.rv.ownBlock = some b → N b ∧ ¬ Mut b) ∧ ∀ x ∈ p.xs, FixR N Mut w x
variable {B : Nat} {N N' : Nat → Prop} {w w' : World} {A M n : Nat} {f : List UInt8 → Option Value} {h : List UInt8 → List RX} {pv : Value} {ps : List PD} {Mut Mut' : Nat → Prop}
theorem FixR.keep {S : Nat → Prop} {x : RX} (hx : FixR N Mut w x) (k : Keeps S w w') (hS : ∀ b, N b → ¬ Mut b → b < w.heap.size → S b ∧ N' b ∧ ¬ Mut' b) : FixR N' Mut' w' x :=
  SliceOf.map hx fun b o y hb hy => by
    have hl := cell_lt hy.1
    obtain ⟨h1, h2, h3⟩ := hS b hb.1 hb.2 hl
    exact ⟨⟨h2, h3⟩, hy.kept h1 k⟩
theorem FixR.later {x : RX} (hx : FixR N Mut w x) (k : Later w w') : FixR N Mut w' x := hx.keep (k.keeps fun _ => True) (fun _ h1 h2 _ => ⟨trivial, h1, h2⟩)
theorem FixR.is {x : RX} (hx : FixR N Mut w x) : IsVals w x.v x.row.vals := hx.vals_mono fun _ _ => trivial
theorem TabAt.slP (t : TabAt B N w A M n f h pv ps Mut) : SlP ps := fun p hp => by
  obtain ⟨a, c, e⟩ := ownsRow_slice (t.pend p hp).1
  exact ⟨a, _, c, e⟩
theorem TabAt.c0 (t : TabAt B N w A M n f h pv ps Mut) : w.cell? ⟨A, 0, none⟩ = some (.map (some M)) := cell_obj (i := 0) t.obj rfl
theorem TabAt.c1 (t : TabAt B N w A M n f h pv ps Mut) : w.cell? ⟨A, 1, none⟩ = some pv := cell_obj (i := 1) t.obj rfl
theorem TabAt.lt (t : TabAt B N w A M n f h pv ps Mut) : A < w.heap.size := (Array.getElem?_eq_some_iff.1 t.obj).1
theorem TabAt.base (t : TabAt B N w A M n f h pv ps Mut) : B ≤ w.heap.size := Nat.le_of_lt (Nat.lt_of_le_of_lt (t.nB A (t.mN A t.mA)) t.lt)
/-- another choice of blocks; a later world in which the table's blocks are unchanged. -/
theorem TabAt.keep {S : Nat → Prop} (t : TabAt B N w A M n f h pv ps Mut) (k : Keeps S w w') (hS : ∀ b, N b → b < w.heap.size → S b ∧ N' b) (hB : ∀ b, N' b → B ≤ b) : TabAt B N' w' A M n f h pv ps Mut := by
  have hm : ∀ b, Mut b → S b ∧ N' b := fun b hb => hS b (t.mN b hb) (t.mlt b hb)
  exact {
    obj := k.obj (hm A t.mA).1 t.obj
    map := t.map.kept k (hm M t.mM).1
    own := t.own.keep k fun g hg => (hm g (t.mP g hg)).1
    rise := t.rise
    ne := t.ne
    pvA := t.pvA
    pvM := t.pvM
    mA := t.mA
    mM := t.mM
    mP := t.mP
    mN := fun b hb => (hm b hb).2
    nB := hB
    mlt := fun b hb => Nat.lt_of_lt_of_le (t.mlt b hb) k.size
    held := fun x u hu => ⟨owns_keep (t.held x u hu).1 k fun g hg => (hm g ((t.held x u hu).2 g hg).1).1, (t.held x u hu).2⟩
    gone := t.gone
    apart := t.apart
    vals := fun x y hy => (t.vals x y hy).keep k fun b h1 h2 h3 => ⟨(hS b h1 h3).1, (hS b h1 h3).2, h2⟩
    pend := fun p hp => by
      obtain ⟨h1, h2, h3⟩ := t.pend p hp
      have hl := fun b hb => (ownb h1 b hb).2
      exact ⟨owns_keep h1 k fun g hg => (hS g (h2 g hg).1 (hl g hg)).1, fun b hb => ⟨(hS b (h2 b hb).1 (hl b hb)).2, (h2 b hb).2⟩, fun x hx => (h3 x hx).keep k fun b h1 h2 h3 => ⟨(hS b h1 h3).1, (hS b h1 h3).2, h2⟩⟩ }
theorem TabAt.later (t : TabAt B N w A M n f h pv ps Mut) (k : Later w w') : TabAt B N w' A M n f h pv ps Mut := t.keep (k.keeps fun _ => True) (fun _ h _ => ⟨trivial, h⟩) t.nB
theorem TabAt.mono {n' : Nat} (t : TabAt B N w A M n f h pv ps Mut) (hn : n ≤ n') : TabAt B N w A M n' f h pv ps Mut := { t with map := t.map.mono hn }
/-- the list of what is prepared is another. -/
theorem TabAt.turn {pv' : Value} {ps' : List PD} (t : TabAt B N w A M n f h pv ps Mut) (k : Keeps (fun b => some b ≠ pv.ownBlock ∧ b ≠ A) w w') (ho : w'.heap[A]? = some (.cells #[.map (some M), pv'] 132 (0, 0)))
    (hown : OwnP B w' pv' ps') (hr : RiseP ps') (hpv : pv'.ownBlock = pv.ownBlock ∨ ∀ b, pv'.ownBlock = some b → w.heap.size ≤ b)
    (hpend : ∀ p ∈ ps', p ∈ ps ∨ (OwnR w.heap.size w' p.rv p.xs ∧ DeepR w.heap.size w' p.xs)) :
    TabAt B (fun b => N b ∨ w.heap.size ≤ b) w' A M n f h pv' ps' (fun b => Mut b ∨ pv'.ownBlock = some b) := by
  have hB := t.base
  have hA := t.lt
  have hMl := t.map.lt
  have hfar : ∀ b, b < w.heap.size → some b ≠ pv.ownBlock → pv'.ownBlock ≠ some b := fun b hb hn e => by
    rcases hpv with h | h
    · exact hn (by rw [← h, e])
    · have := h b e; omega
  have hpA : pv'.ownBlock ≠ some A := hfar A hA fun e => t.pvA e.symm
  have hpM : pv'.ownBlock ≠ some M := hfar M hMl fun e => t.pvM e.symm
  have hfix : ∀ b, N b → ¬ Mut b → b < w.heap.size → (some b ≠ pv.ownBlock ∧ b ≠ A) ∧ (N b ∨ w.heap.size ≤ b) ∧ ¬ (Mut b ∨ pv'.ownBlock = some b) := fun b h1 h2 h3 => by
    have h4 : some b ≠ pv.ownBlock := fun e => h2 (t.mP b e.symm)
    exact ⟨⟨h4, fun e => h2 (e ▸ t.mA)⟩, .inl h1, fun e => e.elim h2 (hfar b h3 h4)⟩
  exact {
    obj := ho
    map := t.map.kept k ⟨fun e => t.pvM e.symm, fun e => t.ne e.symm⟩
    own := hown
    rise := hr
    ne := t.ne
    pvA := hpA
    pvM := hpM
    mA := .inl t.mA
    mM := .inl t.mM
    mP := fun b hb => .inr hb
    mN := fun b hb => by
      rcases hb with hb | hb
      · exact .inl (t.mN b hb)
      · rcases hpv with h | h
        · exact .inl (t.mN b (t.mP b (by rw [← h, hb])))
        · exact .inr (h b hb)
    nB := fun b hb => by
      rcases hb with hb | hb
      · exact t.nB b hb
      · omega
    mlt := fun b hb => by
      rcases hb with hb | hb
      · exact Nat.lt_of_lt_of_le (t.mlt b hb) k.size
      · exact (ownb hown b hb).2
    held := fun x u hu => by
      obtain ⟨h1, h2⟩ := t.held x u hu
      exact ⟨owns_keep h1 k fun g hg => ⟨fun e => (h2 g hg).2.2.2 e.symm, (h2 g hg).2.1⟩, fun b hb => ⟨.inl (h2 b hb).1, (h2 b hb).2.1, (h2 b hb).2.2.1, hfar b (ownb h1 b hb).2 fun e => (h2 b hb).2.2.2 e.symm⟩⟩
    gone := t.gone
    apart := t.apart
    vals := fun x y hy => (t.vals x y hy).keep k hfix
    pend := fun p hp => by
      rcases hpend p hp with hp | ⟨h1, h2⟩
      · obtain ⟨h1, h2, h3⟩ := t.pend p hp
        have hl := fun b hb => (ownb h1 b hb).2
        exact ⟨owns_keep h1 k fun g hg => (hfix g (h2 g hg).1 (h2 g hg).2 (hl g hg)).1, fun b hb => (hfix b (h2 b hb).1 (h2 b hb).2 (hl b hb)).2, fun x hx => (h3 x hx).keep k hfix⟩
      · have hnew : ∀ b, w.heap.size ≤ b → ¬ Mut b := fun b hb h => by have := t.mlt b h; omega
        refine ⟨own_base h1 hB, fun b hb => ⟨.inr (ownb h1 b hb).1, fun e => e.elim (hnew b (ownb h1 b hb).1) fun e => own_apart hown h1 (by decide) b e hb⟩, fun x hx => ?_⟩
        exact (owned_vals_at (h2.own x hx)).map fun b o y hb hy => ⟨⟨.inr (ownb (h2.own x hx) b hb).1, fun e => e.elim (hnew b (ownb (h2.own x hx) b hb).1) fun e => own_apart hown (h2.own x hx) (by decide) b e hb⟩, hy⟩ }
/-- rows that are seen now. -/
def updH (h : List UInt8 → List RX) (k : List UInt8) (xs : List RX) : List UInt8 → List RX := fun x => if x = k then h k ++ xs else h x
theorem TabAt.put {n' : Nat} {u' : Value} {xs : List RX} (t : TabAt B N w A M n f h pv ps Mut) (k : List UInt8) (kp : Keeps (fun b => b ≠ M ∧ ∀ u, f k = some u → some b ≠ u.ownBlock) w w') (hm : MapAt w' M n' (upd f k (some u')))
    (hown : OwnR B w' u' (h k ++ xs)) (hu : (∃ u, f k = some u ∧ u'.ownBlock = u.ownBlock) ∨ ∀ b, u'.ownBlock = some b → w.heap.size ≤ b) (hx : ∀ x ∈ xs, FixR N Mut w x) :
    TabAt B (fun b => N b ∨ w.heap.size ≤ b) w' A M n' (upd f k (some u')) (updH h k xs) pv ps (fun b => Mut b ∨ u'.ownBlock = some b) := by
  have hB := t.base
  have hA := t.lt
  have hMl := t.map.lt
  have hfar : ∀ b, b < w.heap.size → (∀ u, f k = some u → some b ≠ u.ownBlock) → u'.ownBlock ≠ some b := fun b hb hn e => by
    rcases hu with ⟨u, h1, h2⟩ | h
    · exact hn u h1 (by rw [← h2, e])
    · have := h b e; omega
  have hAs : ∀ u, f k = some u → some A ≠ u.ownBlock := fun u hu e => ((t.held k u hu).2 A e.symm).2.1 rfl
  have hMs : ∀ u, f k = some u → some M ≠ u.ownBlock := fun u hu e => ((t.held k u hu).2 M e.symm).2.2.1 rfl
  have hPs : ∀ b, pv.ownBlock = some b → ∀ u, f k = some u → some b ≠ u.ownBlock := fun b hb u hu e => ((t.held k u hu).2 b e.symm).2.2.2 hb
  have hfix : ∀ b, N b → ¬ Mut b → b < w.heap.size → (b ≠ M ∧ ∀ u, f k = some u → some b ≠ u.ownBlock) ∧ (N b ∨ w.heap.size ≤ b) ∧ ¬ (Mut b ∨ u'.ownBlock = some b) := fun b h1 h2 h3 => by
    have h4 : ∀ u, f k = some u → some b ≠ u.ownBlock := fun u hu e => h2 ((t.held k u hu).2 b e.symm).1
    exact ⟨⟨fun e => h2 (e ▸ t.mM), h4⟩, .inl h1, fun e => e.elim h2 (hfar b h3 h4)⟩
  exact {
    obj := kp.obj ⟨t.ne, hAs⟩ t.obj
    map := hm
    own := t.own.keep kp fun g hg => ⟨fun e => t.pvM (e ▸ hg), hPs g hg⟩
    rise := t.rise
    ne := t.ne
    pvA := t.pvA
    pvM := t.pvM
    mA := .inl t.mA
    mM := .inl t.mM
    mP := fun b hb => .inl (t.mP b hb)
    mN := fun b hb => by
      rcases hb with hb | hb
      · exact .inl (t.mN b hb)
      · rcases hu with ⟨u, h1, h2⟩ | h
        · exact .inl (t.mN b ((t.held k u h1).2 b (by rw [← h2, hb])).1)
        · exact .inr (h b hb)
    nB := fun b hb => by
      rcases hb with hb | hb
      · exact t.nB b hb
      · omega
    mlt := fun b hb => by
      rcases hb with hb | hb
      · exact Nat.lt_of_lt_of_le (t.mlt b hb) kp.size
      · exact (ownb hown b hb).2
    held := fun x v hv => by
      unfold upd at hv
      unfold updH
      by_cases hxk : x = k
      · rw [if_pos hxk] at hv ⊢
        cases hv
        refine ⟨hown, fun b hb => ⟨.inr hb, fun e => hfar A hA hAs (e ▸ hb), fun e => hfar M hMl hMs (e ▸ hb), fun e => ?_⟩⟩
        exact hfar b (Nat.lt_of_lt_of_le (ownb t.own b e).2 (Nat.le_refl _)) (hPs b e) hb
      · rw [if_neg hxk] at hv ⊢
        obtain ⟨h1, h2⟩ := t.held x v hv
        exact ⟨owns_keep h1 kp fun g hg => ⟨(h2 g hg).2.2.1, fun u hu e => t.apart x k v u g hxk hv hu hg e.symm⟩, fun b hb => ⟨.inl (h2 b hb).1, (h2 b hb).2⟩⟩
    gone := fun x hx => by
      unfold upd at hx
      unfold updH
      by_cases hxk : x = k
      · rw [if_pos hxk] at hx; cases hx
      · rw [if_neg hxk] at hx ⊢; exact t.gone x hx
    apart := fun x y u v b hxy hu1 hv1 hb hb2 => by
      unfold upd at hu1 hv1
      by_cases hxk : x = k
      · by_cases hyk : y = k
        · exact hxy (hxk.trans hyk.symm)
        · rw [if_pos hxk] at hu1
          rw [if_neg hyk] at hv1
          cases hu1
          exact hfar b (ownb (t.held y v hv1).1 b hb2).2 (fun u hu e => t.apart y k v u b hyk hv1 hu hb2 e.symm) hb
      · rw [if_neg hxk] at hu1
        by_cases hyk : y = k
        · rw [if_pos hyk] at hv1
          cases hv1
          exact hfar b (ownb (t.held x u hu1).1 b hb).2 (fun v hv e => t.apart x k u v b hxk hu1 hv hb e.symm) hb2
        · rw [if_neg hyk] at hv1
          exact t.apart x y u v b hxy hu1 hv1 hb hb2
    vals := fun x y hy => by
      unfold updH at hy
      by_cases hxk : x = k
      · rw [if_pos hxk] at hy
        rcases List.mem_append.1 hy with hy | hy
        · exact (t.vals k y hy).keep kp hfix
        · exact (hx y hy).keep kp hfix
      · rw [if_neg hxk] at hy
        exact (t.vals x y hy).keep kp hfix
    pend := fun p hp => by
      obtain ⟨h1, h2, h3⟩ := t.pend p hp
      have hl := fun b hb => (ownb h1 b hb).2
      exact ⟨owns_keep h1 kp fun g hg => (hfix g (h2 g hg).1 (h2 g hg).2 (hl g hg)).1, fun b hb => (hfix b (h2 b hb).1 (h2 b hb).2 (hl b hb)).2, fun x hx => (h3 x hx).keep kp hfix⟩ }
/-- it is changed in its own blocks alone. -/
theorem TabAt.touchP (t : TabAt B N w A M n f h pv ps Mut) (k : Keeps (fun b => some b ≠ pv.ownBlock ∧ b ≠ A) w w') : Keeps (fun b => ¬ N b) w w' :=
  k.mono fun b _ hb => ⟨fun e => hb (t.mN b (t.mP b e.symm)), fun e => hb (e ▸ t.mN A t.mA)⟩
theorem TabAt.touchM (t : TabAt B N w A M n f h pv ps Mut) {k : List UInt8} (kp : Keeps (fun b => b ≠ M ∧ ∀ u, f k = some u → some b ≠ u.ownBlock) w w') : Keeps (fun b => ¬ N b) w w' :=
  kp.mono fun b _ hb => ⟨fun e => hb (e ▸ t.mN M t.mM), fun u hu e => hb (t.mN b ((t.held k u hu).2 b e.symm).1)⟩
theorem tab_new (B : Nat) (w : World) (hB : B ≤ w.heap.size) : Calls Tryd.prog 32 #[] w fun e w' => ∃ A M Mut, e = .returned (.pointer (some ⟨A, 0, none⟩)) ∧ TabAt B (fun b => w.heap.size ≤ b) w' A M 0 (fun _ => none) (fun _ => []) nilS [] Mut ∧ Later w w' := by
  have HB := hid hB
  clear hB
  have hmm := @run_makeMap Tryd.prog
  go_enter Tryd.func32, Tryd.ntmps32
  go_wp2_with fail
  go_ret
  have hM := MapAt.made w
  have hO := obj_new (w.alloc (.map #[] 0)) (.cells #[.map (some w.heap.size), .slice none 0 0] 132 (0, 0))
  rw [World.size_alloc] at hO
  have hB := HB.out
  refine ⟨w.heap.size + 1, w.heap.size, fun b => b = w.heap.size ∨ b = w.heap.size + 1, rfl, ⟨hO, hM.later (Later.alloc _ _), OwnP.nil _ _, List.Pairwise.nil, by omega, (fun h => by cases h), (fun h => by cases h), .inr rfl, .inl rfl, (fun b h => by cases h), (fun b h => by omega), (fun b h => by omega), (fun b h => by rw [World.size_alloc, World.size_alloc]; omega), (fun k u h => by cases h), (fun _ _ => rfl), (fun k k' u u' b _ h => by cases h), (fun k x h => by cases h), (fun p h => by cases h)⟩, (Later.alloc _ _).alloc' _⟩
theorem IsPs.later {v : Value} {l : List PD} (h : IsPs w v l) (k : Later w w') : IsPs w' v l := h.map fun _ _ _ hb hx => ⟨hb, hx.later k⟩
set_option maxRecDepth 100000 in
theorem tab_find (t : TabAt B N w A M n f h pv ps Mut) (x : TxD) (hl : ps.length ≤ 4398046511104) : Calls Tryd.prog 69 #[.pointer (some ⟨A, 0, none⟩), x.v] w (FindPTo w ps x) := by
  have T := hid t; have HL := hid hl
  obtain ⟨a, c, rfl⟩ := t.own.slice
  obtain ⟨k, s, z⟩ := x
  clear t hl
  go_enter Tryd.func69, Tryd.ntmps69
  go_upto_region 1 with (fail)
  obtain ⟨w1, hw1⟩ : ∃ w1, w1 = w.alloc (.cells #[.int .i64 k, .string (strB s), .int .i64 z] 72 (0, 0)) := ⟨_, rfl⟩
  obtain ⟨X, hX⟩ : ∃ X, X = w.heap.size := ⟨_, rfl⟩
  have HL1 : Hid (Later w w1) := hid (by rw [hw1]; exact Later.alloc _ _)
  have HX1 : Hid (w1.heap[X]? = some (.cells #[.int .i64 k, .string (strB s), .int .i64 z] 72 (0, 0))) := hid (by rw [hw1, hX]; exact obj_new _ _)
  rw [← hw1, ← hX]
  clear hw1 hX
  have c1 := HL1.out.cell T.out.c1
  have x0 := cell_obj (i := 0) HX1.out (v := .int .i64 k) rfl
  have x1 := cell_obj (i := 1) HX1.out (v := .string (strB s)) rfl
  have x2 := cell_obj (i := 2) HX1.out (v := .int .i64 z) rfl
  have hl1 := cell_lt c1
  have hl2 := cell_lt x0
  have HPS := hid (T.out.later HL1.out).own.ps
  have HRI := hid T.out.rise
  have HSL := hid T.out.slP
  obtain ⟨pl, hpl⟩ : ∃ pl, pl = placeP ps ⟨k, s, z⟩ := ⟨_, rfl⟩
  obtain ⟨pb, hpb⟩ : ∃ pb, pb = hasP ps ⟨k, s, z⟩ := ⟨_, rfl⟩
  have HPL := hid hpl; have HPB := hid hpb
  clear hpl hpb
  refine wp_region_lex (by kernel_rfl) (by kernel_rfl) Later Later.refl Later.trans (kinds [(5, fun v _ => v = .tuple #[.int .i64 pl, .bool pb])]) (kinds_still (by simp +contextual)) ?_
  simp only [numbered, Nat.reduceAdd]
  refine LexS.out ?_
  iterate 5
    first
    | (refine LexS.skip rfl ?_; simp only [Act.put, List.setIfInBounds_toArray, List.set])
    | (refine LexS.one' rfl rfl ?_
       apply Exists.intro
       refine ⟨fun w hR hF => ?_, ?_⟩
       · have hP := hR
         repeat (first | replace hP := Later.of_drew hP | replace hP := Later.of_drewN hP | replace hP := Later.of_alloc hP)
         have hcs := hR.cells
         have zc1 := hP.cell c1
         have zx0 := hP.cell x0
         have zx1 := hP.cell x1
         have zx2 := hP.cell x2
         clear hR hF hP
         go_simp
         first | done | rfl
       simp only [Act.put, List.setIfInBounds_toArray, List.set])
  refine LexS.anyEq rfl rfl (fun w hR hF => ?_) ?_
  · have hP := hR
    repeat (first | replace hP := Later.of_drew hP | replace hP := Later.of_drewN hP | replace hP := Later.of_alloc hP)
    have hcs := hR.cells
    clear hF hR
    unfold Runs
    go_simp
    unfold Yield
    refine (search_any ps ⟨k, s, z⟩ _ _ (HPS.out.later hP) HRI.out HSL.out HL.out).mono ?_
    rintro e w' ⟨rfl, hL⟩
    exact ⟨_, rfl, hL, by rw [HPL.out, HPB.out]⟩
  simp only [Act.put, List.setIfInBounds_toArray, List.set]
  iterate 4
    first
    | (refine LexS.skip rfl ?_; simp only [Act.put, List.setIfInBounds_toArray, List.set])
    | (refine LexS.one' rfl rfl ?_
       apply Exists.intro
       refine ⟨fun w hR hF => ?_, ?_⟩
       · have hP := hR
         repeat (first | replace hP := Later.of_drew hP | replace hP := Later.of_drewN hP | replace hP := Later.of_alloc hP)
         have hcs := hR.cells
         clear hR hF hP
         go_simp
         first | done | rfl
       simp only [Act.put, List.setIfInBounds_toArray, List.set])
  refine LexS.nil ?_
  intro w2 hR2 hF9
  clear hF9
  repeat (first | replace hR2 := Later.of_drew hR2 | replace hR2 := Later.of_drewN hR2 | replace hR2 := Later.of_alloc hR2)
  have HR2 := hid (Later.trans _ _ _ HL1.out hR2)
  clear hR2 c1 x0 x1 x2 hl1 hl2
  go_wp2_with fail
  refine bodyPost_ret (v := .tuple #[.int .i64 pl, .bool pb]) (by simp [results, Tryd.results69, go_sem] <;> rfl) rfl ⟨?_, HR2.out⟩
  rw [HPL.out, HPB.out]
end Go.Proofs.YtcmpjdnbjhkhdaaDoor
